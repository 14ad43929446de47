/- Part 34 of the proof: Gener, OfS0. -/
import Derived.Test.YtdjhoadoiknaoaaDoorZC33
set_option linter.unusedVariables false
set_option linter.unusedSimpArgs false
namespace Go.Proofs.YtdjhoadoiknaoaaDoor
open Go.RowKit
theorem metL_snoc_old {n:Nat} {l:List Nat} {q:Nat} (h:q∈l∨n≤q):metL n (l ++ [q])=metL n l:=by
 refine List.ext_getElem (by simp [metL]) fun i h1 h2=>?_
 simp only [metL,List.getElem_map,List.getElem_range,List.mem_append,List.mem_singleton]
 congr 1
 refine propext ⟨?_,.inl⟩
 rintro (h3|rfl)
 ·exact h3
 ·rcases h with h|h
  ·exact h
  ·simp [metL] at h1;omega
set_option maxHeartbeats 800000 in
theorem set03_any (B:Nat) (w:World) (v:Value) (l:List Nat) (n:Nat) (h:Row B w v (nats l)) (hB:B≤w.heap.size) (hn:n≤100000) :
  Calls Tryd.prog 107 #[v,.int .i64 (n:Int)] w fun e w'=>e=.returned (.slice (some ⟨w.heap.size,0,none⟩) n n)∧Arr w' w.heap.size 4 (bls (metL n l))∧w.grownBy w' none:=by
 have hll:=h.len_le
 rw [zN] at hll
 unfold maxLen at hll
 obtain ⟨va,vc,rfl⟩:=h.shape
 rw [zN] at h ⊢
 have H:=Kh h
 clear h
 go_enter Tryd.func107,Tryd.ntmps107
 go_wp2_with (first|(at_make;refine make1 rfl _ _ _ rfl wD rfl .i64 .i64 _ _ n rfl rfl rfl rfl ?b1 ?b2 ?_;(case b1=>omega);(case b2=>(unfold maxLen;omega));intro w2 harr hg2 hlt2)|fail)
 have HA2:=Kh harr;have HG2:=Kh hg2
 clear harr hg2
 go_loopg [7,12] l.length (fun gh a7 i wr=>∃ k:Nat,gh+k=l.length∧i=.int .i64 k∧Arr wr w.heap.size 4 (bls (metL n (l.take k)))∧w.grownBy wr none)
 case atStart=>exact ⟨0,rfl,rfl,by rw [List.take_zero,metL_nil,wU];exact HA2.out,HG2.out⟩
 case round =>
  clear HA2 HG2
  obtain ⟨k,hg,rfl,harr,hgr⟩:=hrel
  have HG:=Kh hg;have HA:=Kh harr;have HGR:=Kh hgr
  clear hg
  by_cases hk:k < l.length
  ·have hk':(k:Int) < l.length:=by omega
   obtain ⟨ib,io,ic,e,_,hc1,hc2,hra⟩:=(H.out.kept hgr (by simp)).some_ (by rw [zN];omega)
   simp only [Value.slice.injEq] at e
   obtain ⟨rfl,-,rfl⟩:=e
   have ck:=hra.nat k hk
   have hst:l.take (k+1)=l.take k ++ [l.getD k 0]:=yF hk
   obtain ⟨x,hx⟩:∃ x,x=l.getD k 0:=⟨_,rfl⟩
   rw [← hx] at ck hst
   by_cases hxn:x < n
   ·have hx':(x:Int) < n:=by omega
    have cg:=harr.bool x (by rw [xM];exact hxn)
    have fg:=harr.frozen x
    have HS:Hid ((metL n (l.take k)).set x true=metL n (l.take (k+1))):=Kh (by rw [lQ,hst])
    clear harr hgr hra hx hst
    go_wp2
    go_roundg (l.length - (k+1))
    case measure=>have:=HG.out;omega
    case rel =>
     refine ⟨k+1,by omega,by go_num,?_,zF HGR.out (zH wr ⟨w.heap.size,x,none⟩ _) (fun q e=>by have h7:w.heap.size=q:=Oj e;omega)⟩
     rw [← HS.out]
     exact HA.out.bool_set x (by rw [xM];exact hxn) true
   ·have hx':(n:Int)≤x:=by omega
    have HS:Hid (metL n (l.take (k+1))=metL n (l.take k)):=Kh (by rw [hst,metL_snoc_old (.inr (by omega))])
    clear harr hgr hra hx hst
    go_wp2
    go_roundg (l.length - (k+1))
    case measure=>have:=HG.out;omega
    case rel=>exact ⟨k+1,by omega,by go_num,by rw [HS.out];exact HA.out,HGR.out⟩
  ·have HE:Hid (l.take k=l):=Kh (List.take_of_length_le (by omega))
   rw [HE.out] at HA
   clear harr hgr
   go_wp2
   go_ret
   exact ⟨rfl,HA.out,HGR.out⟩
def membL (bs:List Bool):List Nat:=(List.range bs.length).filter fun i=>bs.getD i false
def qO (bs:List Bool) (k:Nat):List Nat:=(List.range k).filter fun i=>bs.getD i false
theorem membTo_succ {bs:List Bool} {k:Nat}:qO bs (k+1)=qO bs k ++ if bs.getD k false then [k] else []:=by
 unfold qO
 rw [List.range_succ,List.filter_append,List.filter_cons,List.filter_nil]
theorem membTo_le (bs:List Bool) (k:Nat):(qO bs k).length≤k:=by
 have:=List.length_filter_le (fun i=>bs.getD i false) (List.range k)
 rw [List.length_range] at this
 exact this
set_option maxHeartbeats 800000 in
theorem members_any (w:World) (g:Nat) (bs:List Bool) (h:RowAt w g 0 (bls bs)) (hn:bs.length≤100000) :
  Calls Tryd.prog 108 #[.slice (some ⟨g,0,none⟩) bs.length bs.length] w fun e w'=>(∃ (sa:Option Addr) (sc:Nat),e=.returned (.slice sa (membL bs).length sc)∧w'.ownsRow w.heap.size 3 1 (.slice sa (membL bs).length sc) (membL bs).length (nats (membL bs)))∧w.grownBy w' none:=by
 have H:=Kh h
 have hlt:=h.1
 clear h
 go_enter Tryd.func108,Tryd.ntmps108
 go_wp2
 go_loopg [3,4,5,8] bs.length (fun gh v3 a4 a5 i wr=>∃ (k:Nat) (sa:Option Addr) (sc:Nat),gh+k=bs.length∧i=.int .i64 k∧v3=.slice sa (qO bs k).length sc∧wr.ownsRow w.heap.size 3 1 (.slice sa (qO bs k).length sc) (qO bs k).length (nats (qO bs k))∧w.grownBy wr none)
 case atStart=>exact ⟨0,none,0,rfl,rfl,rfl,World.ownsRow_nil _ _ _ _,zX _ _⟩
 case round =>
  obtain ⟨k,sa,sc,hg,rfl,rfl,hown,hgr⟩:=hrel
  have HG:=Kh hg;have HO:=Kh hown;have HGR:=Kh hgr
  have hml:=membTo_le bs k
  clear hg hown
  by_cases hk:k < bs.length
  ·have hk':(k:Int) < bs.length:=by omega
   have ck:=RowAt.map (H.out.kept hgr (by simp)) k hk
   rw [← zV (d:=false) hk,Nat.zero_add] at ck
   have hgs:=hgr.size
   have hsu:=membTo_succ (bs:=bs) (k:=k)
   clear hgr
   cases hb:bs.getD k false with
   | true =>
    rw [hb] at ck hsu
    have HS:Hid (qO bs (k+1)=qO bs k ++ [k]):=Kh (by rw [hsu];rfl)
    obtain ⟨A,hA⟩:∃ A,A=qO bs k:=⟨_,rfl⟩
    rw [← hA] at HO HS hml ⊢
    clear hb hsu hA
    go_wp2_with (first|(at_builtin;refine app1 rfl _ _ _ rfl yG w.heap.size _ A.length (nats A) rfl HO.out _ rfl rfl ?c1 ?c2 ?c3 ?_)|fail)
    case c1=>unfold maxLen;omega
    case c2=>omega
    case c3=>exact hgs
    intro sa' sc' w6 hown6 hg6 hlt6
    have HO6:=Kh hown6;have HG6:=Kh hg6
    clear hown6 hg6
    go_wp2
    go_roundg (bs.length - (k+1))
    case measure=>have:=HG.out;omega
    case rel =>
     refine ⟨k+1,sa',sc',by omega,by go_num,by rw [HS.out];simp,?_,zF HGR.out HG6.out (fun q e=>(HO.out.lt q e).1)⟩
     rw [HS.out,uP,List.length_append]
     exact HO6.out
   | false =>
    rw [hb] at ck hsu
    have HS:Hid (qO bs (k+1)=qO bs k):=Kh (by rw [hsu];simp)
    clear hb hsu
    go_wp2
    go_roundg (bs.length - (k+1))
    case measure=>have:=HG.out;omega
    case rel=>exact ⟨k+1,sa,sc,by omega,by go_num,by rw [HS.out],by rw [HS.out];exact HO.out,HGR.out⟩
  ·have hkn:k=bs.length:=by have:=HG.out;omega
   have HE:Hid (qO bs k=membL bs):=Kh (by rw [hkn];rfl)
   rw [HE.out] at HO ⊢
   obtain ⟨A,hA⟩:∃ A,A=membL bs:=⟨_,rfl⟩
   have HAE:=Kh hA
   rw [← hA] at HO ⊢
   clear hkn hgr hA
   go_wp2
   go_ret
   exact ⟨⟨sa,sc,by rw [← HAE.out];rfl,by rw [← HAE.out];exact HO.out⟩,HGR.out⟩
def jR (t:List (List Int)) (m:List Nat):Prop:=∀ x∈m,∀ y∈m,entN t x y∈m
def SeenL (t:List (List Int)) (m:List Nat) (k j:Nat):Prop:=∀ x∈m,∀ y∈m,(x < k∨(x=k∧y < j))→entN t x y∈m
structure GenI (t:List (List Int)) (gs m:List Nat):Prop where
 nd:m.Nodup
 lt:∀ x∈m,x < t.length
 base:∀ x∈gs,x∈m
 gen:∀ x∈m,Gen t gs x
theorem GenI.add {t:List (List Int)} (hs:Shape t) {gs m:List Nat} (h:GenI t gs m) {x y:Nat} (hx:x∈m) (hy:y∈m) (hz:entN t x y ∉ m):GenI t gs (m ++ [entN t x y]) where
 nd:=by
  rw [List.nodup_append]
  exact ⟨h.nd,by simp,fun a ha b hb=>by rw [List.mem_singleton] at hb;subst hb;rintro rfl;exact hz ha⟩
 lt:=fun z hz=>by
  rcases List.mem_append.1 hz with hz|hz
  ·exact h.lt z hz
  ·rw [List.mem_singleton] at hz;subst hz;exact uD hs (h.lt x hx) (h.lt y hy)
 base:=fun z hz=>List.mem_append_left _ (h.base z hz)
 gen:=fun z hz=>by
  rcases List.mem_append.1 hz with hz|hz
  ·exact h.gen z hz
  ·rw [List.mem_singleton] at hz;subst hz;exact .mul x y (h.gen x hx) (h.gen y hy)
def GenOk (w:World) (t:List (List Int)) (gs:List Nat) (e:Ending) (w':World):Prop :=
 ∃ m:List Nat,GenI t gs m∧jR t m∧(∃ (sa:Option Addr) (sc:Nat),e=.returned (.slice sa (membL (metL t.length m)).length sc)∧w'.ownsRow w.heap.size 3 1 (.slice sa (membL (metL t.length m)).length sc) (membL (metL t.length m)).length (nats (membL (metL t.length m))))∧w.grownBy w' none
set_option maxRecDepth 100000 in
set_option maxHeartbeats 2000000 in
theorem generated_any (B C:Nat) (w:World) (v gv:Value) (t:List (List Int)) (gs:List Nat) (hB:B≤w.heap.size) (hC:C≤w.heap.size) (h:Mat B w v t) (hs:Shape t) (hg:Row C w gv (nats gs)) (hgl:∀ g∈gs,g < t.length) :
  Calls Tryd.prog 87 #[v,gv] w (GenOk w t gs):=by
 obtain ⟨tb,off,cap,RB,RO,RC,rfl,hc1,hc2,hq⟩:=h.sq hs
 have hmx:cap≤9223372036854775807:=by unfold maxLen at hc2;omega
 obtain ⟨n,hn⟩:∃ n,n=t.length:=⟨_,rfl⟩
 have hn4:=hs.le
 have hn1:=hs.pos
 have HS0:=Kh (set03_any C w gv gs n hg hC (by omega))
 have HQ:=Kh hq;have HS:=Kh hs;have HNE:=Kh hn;have HGL:=Kh hgl
 rw [← hn] at hc1 hn4 hn1 ⊢
 clear h hs hg hq hgl hc2 hn
 go_enter Tryd.func87,Tryd.ntmps87
 go_wp2_with fail
 refine HS0.out.mono ?_
 rintro e w1 ⟨rfl,ha1,hg1⟩
 have hmet:metL n gs=metL n (yN gs):=by
  refine List.ext_getElem (by simp [metL]) fun i h1 h2=>?_
  simp only [metL,List.getElem_map,List.getElem_range,wO]
 rw [hmet] at ha1
 have HI0:Hid (GenI t gs (yN gs)):=Kh ⟨qQ _,fun x hx=>HGL.out x (wO.1 hx),fun x hx=>wO.2 hx,fun x hx=>.base x (wO.1 hx)⟩
 obtain ⟨G,hG⟩:∃ G,G=w.heap.size:=⟨_,rfl⟩
 have HGE:=Kh hG
 rw [← hG] at ha1 ⊢
 have HA1:=Kh ha1;have HG1:=Kh hg1
 clear ha1 hg1 hmet hG HS0
 go_wp2
 go_loopg [6] (2 * n+1) (fun gh v6 wr=>∃ (m:List Nat) (b:Bool),v6=.bool b∧2 * (n - m.length)+(if b then 1 else 0)≤gh∧GenI t gs m∧(b=false→jR t m)∧Arr wr G 4 (bls (metL n m))∧w.grownBy wr none)
 case atStart=>exact ⟨yN gs,true,rfl,by simp;omega,HI0.out,(fun h=>by cases h),HA1.out,HG1.out⟩
 case round =>
  clear HA1 HG1 HI0
  obtain ⟨m,b,rfl,hgh,hgi,hcl,harr,hgr⟩:=hrel
  have HGH:=Kh hgh;have HGI:=Kh hgi;have HCL:=Kh hcl;have HA:=Kh harr;have HGR:=Kh hgr
  have hml:m.length≤n:=qN hgi.nd (fun q hq=>by rw [HNE.out];exact hgi.lt q hq)
  clear hgh hgi hcl harr hgr
  cases b with
  | false =>
   have hclo:=HCL.out rfl
   have HM:=Kh (fun W hW=>members_any W G (metL n m) hW (by rw [xM];omega))
   have hmt:=xM n m
   obtain ⟨bs,hbs⟩:∃ bs,bs=metL n m:=⟨_,rfl⟩
   have hra:=HA.out.row
   have HM2:=Kh (HM.out wr hra)
   rw [hmt] at HM2
   have HCL2:=Kh hclo
   clear hra hmt hbs hclo HM
   go_wp2_with fail
   refine HM2.out.mono ?_
   rintro e w5 ⟨⟨sa,sc,rfl,ho⟩,hg5⟩
   have HO:=Kh ho;have HG5:=Kh hg5
   obtain ⟨A,hA⟩:∃ A,A=membL (metL n m):=⟨_,rfl⟩
   have HAE:=Kh hA
   rw [← hA] at HO ⊢
   clear ho hg5 hA
   go_wp2
   go_ret
   refine ⟨m,HGI.out,HCL2.out,⟨sa,sc,?_,?_⟩,zG HGR.out HG5.out⟩
   ·rw [← HNE.out,← HAE.out];rfl
   ·rw [← HNE.out,← HAE.out];exact yK HO.out HGR.out.size
  | true =>
   go_wp2
   go_loopg [6,7,16] n (fun gx v6 a7 i wr=>∃ (k:Nat) (m':List Nat) (c:Bool),gx+k=n∧i=.int .i64 k∧v6=.bool c∧m.length≤m'.length∧(c=true→m.length < m'.length)∧(c=false→SeenL t m' k 0)∧GenI t gs m'∧Arr wr G 4 (bls (metL n m'))∧w.grownBy wr none)
   case atStart=>exact ⟨0,m,false,rfl,rfl,rfl,Nat.le_refl _,(fun h=>by cases h),(fun _ x hx y hy h=>by omega),HGI.out,HA.out,HGR.out⟩
   case round =>
    clear HA HGR
    obtain ⟨k,m',c,hgx,rfl,rfl,hle,hc,hsn,hgi',harr,hgr⟩:=hrel
    have HGX:=Kh hgx;have HC:=Kh hc;have HSN:=Kh hsn;have HGI':=Kh hgi';have HA:=Kh harr;have HGR:=Kh hgr;have HLE:=Kh hle
    clear hgx hc hsn hgi' harr hgr hle
    by_cases hk:k < n
    ·have hk':(k:Int) < n:=by omega
     go_wp2
     go_loopg [6,8,21] n (fun gy v6 a8 i wr=>∃ (j:Nat) (m':List Nat) (c:Bool),gy+j=n∧i=.int .i64 j∧v6=.bool c∧m.length≤m'.length∧(c=true→m.length < m'.length)∧(c=false→SeenL t m' k j)∧GenI t gs m'∧Arr wr G 4 (bls (metL n m'))∧w.grownBy wr none)
     case atStart=>exact ⟨0,m',c,rfl,rfl,rfl,HLE.out,HC.out,HSN.out,HGI'.out,HA.out,HGR.out⟩
     case round =>
      clear HA HGR HC HSN HGI' HLE
      obtain ⟨j,m',c,hgy,rfl,rfl,hle,hc,hsn,hgi',harr,hgr⟩:=hrel
      have HGY:=Kh hgy;have HC:=Kh hc;have HSN:=Kh hsn;have HGI':=Kh hgi';have HA:=Kh harr;have HGR:=Kh hgr;have HLE:=Kh hle
      clear hgy hc hsn hgi' hle
      by_cases hj:j < n
      ·have hj':(j:Int) < n:=by omega
       have hq:=HQ.out.kept hgr (fun x e=>by cases e)
       have ch:=hq.hd k (by rw [← HNE.out];exact hk)
       have ce:=hq.el k j (by rw [← HNE.out];exact hk) (by rw [← HNE.out];exact hj)
       have hrc:=(hq.cap k (by rw [← HNE.out];exact hk)).1
       rw [← HNE.out] at ch hrc
       have hz:=uD HS.out (show k < t.length by rw [← HNE.out];exact hk) (show j < t.length by rw [← HNE.out];exact hj)
       rw [← HNE.out] at hz
       have cx:=harr.bool k (by rw [xM];exact hk)
       have cy:=harr.bool j (by rw [xM];exact hj)
       rw [lR hk] at cx
       rw [lR hj] at cy
       obtain ⟨z,hze⟩:∃ z,z=entN t k j:=⟨_,rfl⟩
       rw [← hze] at ce hz
       have cz:=harr.bool z (by rw [xM];exact hz)
       rw [lR hz] at cz
       have fz:=harr.frozen z
       have hz':(z:Int) < n:=by omega
       have HZE:=Kh hze
       clear hze hq harr hgr
       have skip:(k∈m'→j∈m'→z∈m')→Hid (c=false→SeenL t m' k (j+1)):=fun h=>Kh (fun hcf x hx y hy hxy=>by
        rcases hxy with hxy|⟨rfl,hy1⟩
        ·exact HSN.out hcf x hx y hy (.inl hxy)
        ·rcases Nat.lt_succ_iff_lt_or_eq.1 hy1 with hy1|rfl
         ·exact HSN.out hcf x hx y hy (.inr ⟨rfl,hy1⟩)
         ·rw [← HZE.out];exact h hx hy)
       have HSK:=Kh skip
       clear skip
       by_cases hkm:k∈m'
       ·rw [decide_eq_true hkm] at cx
        by_cases hjm:j∈m'
        ·rw [decide_eq_true hjm] at cy
         by_cases hzm:z∈m'
         ·rw [decide_eq_true hzm] at cz
          have HS2:=HSK.out (fun _ _=>hzm)
          clear hkm hjm hzm
          go_wp2
          go_roundg (n - (j+1))
          case measure=>have:=HGY.out;omega
          case rel=>exact ⟨j+1,m',c,by omega,by go_num,rfl,HLE.out,HC.out,HS2.out,HGI'.out,HA.out,HGR.out⟩
         ·rw [decide_eq_false hzm] at cz
          have HI2:Hid (GenI t gs (m' ++ [z])):=Kh (by have:=HGI'.out.add HS.out hkm hjm (by rw [← HZE.out];exact hzm);rwa [← HZE.out] at this)
          clear hkm hjm hzm
          go_wp2
          go_roundg (n - (j+1))
          case measure=>have:=HGY.out;omega
          case rel =>
           refine ⟨j+1,m' ++ [z],true,by omega,by go_num,rfl,by have:=HLE.out;simp;omega,fun _=>by have:=HLE.out;simp;omega,(fun h=>by cases h),HI2.out,?_,zF HGR.out (zH wr ⟨G,z,none⟩ _) (fun q e=>by have h7:G=q:=Oj e;have:=HGE.out;omega)⟩
           have h1:=HA.out.bool_set z (by rw [xM];exact hz) true
           rw [lQ] at h1
           exact h1
        ·rw [decide_eq_false hjm] at cy
         have HS2:=HSK.out (fun _ h=>absurd h hjm)
         clear hkm hjm cz
         go_wp2
         go_roundg (n - (j+1))
         case measure=>have:=HGY.out;omega
         case rel=>exact ⟨j+1,m',c,by omega,by go_num,rfl,HLE.out,HC.out,HS2.out,HGI'.out,HA.out,HGR.out⟩
       ·rw [decide_eq_false hkm] at cx
        have HS2:=HSK.out (fun h=>absurd h hkm)
        clear hkm cz
        go_wp2
        go_roundg (n - (j+1))
        case measure=>have:=HGY.out;omega
        case rel=>exact ⟨j+1,m',c,by omega,by go_num,rfl,HLE.out,HC.out,HS2.out,HGI'.out,HA.out,HGR.out⟩
      ·have HS2:Hid (c=false→SeenL t m' (k+1) 0):=Kh (fun hcf x hx y hy hxy=>by
        have hyn:=HGI'.out.lt y hy
        have:=HNE.out
        refine HSN.out hcf x hx y hy ?_
        omega)
       clear harr hgr
       go_wp2
       go_roundg (n - (k+1))
       case measure=>have:=HGX.out;omega
       case rel=>exact ⟨k+1,m',c,by omega,by go_num,rfl,HLE.out,HC.out,HS2.out,HGI'.out,HA.out,HGR.out⟩
    ·have HCL3:Hid (c=false→jR t m'):=Kh (fun hcf x hx y hy=>HSN.out hcf x hx y hy (.inl (by have:=HGI'.out.lt x hx;have:=HNE.out;omega)))
     have hml':m'.length≤n:=qN HGI'.out.nd (fun q hq=>by rw [HNE.out];exact HGI'.out.lt q hq)
     cases c with
     | true =>
      have hlt:=HC.out rfl
      go_wp2
      go_roundg (2 * (n - m'.length)+1)
      case measure=>have:=HGH.out;simp at this;omega
      case rel=>exact ⟨m',true,rfl,by simp,HGI'.out,(fun h=>by cases h),HA.out,HGR.out⟩
     | false =>
      have hle:=HLE.out
      go_wp2
      go_roundg (2 * (n - m'.length))
      case measure=>have:=HGH.out;simp at this;omega
      case rel=>exact ⟨m',false,rfl,by simp,HGI'.out,(fun _=>HCL3.out trivial),HA.out,HGR.out⟩
theorem own_made {w:World} {b m:Nat} (h:(madeCells #[.bool false] m).toList=bls (List.replicate m false)) (hb:b≤w.heap.size) (hm:m≤maxLen):(w.alloc (.cells (madeCells #[.bool false] m) 4)).ownsRow b 4 1 (.slice (some ⟨w.heap.size,0,none⟩) m m) m (bls (List.replicate m false)):=by
 refine ⟨by simp [bls],.inr ⟨w.heap.size,m,_,rfl,hb,heap_alloc_new w _,Nat.le_refl _,hm,?_,?_⟩⟩
 ·rw [← Array.length_toList,h];simp [bls]
 ·rw [h];simp [bls]
inductive of4I (k m b8:Nat) (T:List (List Nat)) (vg y0 y1 y2 vE y4 y5 y6 y7 y8:Value) (w5:World) (a0:Act) (l:Array Bool) (a:Act) (w:World):Prop
 | mk (x34:Value) (x38:Value) (x39:Value) (x10:Value) (o:Nat) (ha:a=zL a0 [(34,x34),(38,x38),(39,x39),(10,x10)]) (HR:∀ j∈[0,1,2,4,5,6],l.getD j true=true) (H3:Hid (l.getD 3 true=true→∃ sa sc,x34=.slice sa m sc∧OwnT 0 w (.slice sa m sc) m T)) (H7:Hid (l.getD 7 true=true→∃ g,x38=.slice (some ⟨g,0,none⟩) m m∧w.ownsRow w5.heap.size 4 1 (.slice (some ⟨g,0,none⟩) m m) m (bls (List.replicate m false)))) (H8:Hid (l.getD 8 true=true→l.getD 3 true=true∧l.getD 7 true=true∧x39=.agg #[.int .i64 k,x34,.slice none 0 0,.slice none 0 0,.slice none 0 0,x38])) (H9:Hid (l.getD 9 true=true→x10=.pointer (some ⟨o,0,none⟩)∧w5.heap.size≤o)) (B1:Hid (l.getD 9 true=true→(l.getD 10 true=false→w.heap[o]?=some (.cells #[.int .i64 0,.slice none 0 0,.slice none 0 0,.slice none 0 0,.slice none 0 0,.slice none 0 0] 33 (0,0))))) (B2:Hid (l.getD 10 true=true→l.getD 3 true=true∧l.getD 7 true=true∧l.getD 8 true=true∧l.getD 9 true=true∧w.heap[o]?=some (.cells #[.int .i64 k,x34,.slice none 0 0,.slice none 0 0,.slice none 0 0,x38] 33 (0,0)))) (HG:(w5.grownBy w none))
theorem of4_G {k m b8:Nat} {T:List (List Nat)} {vg y0 y1 y2 vE y4 y5 y6 y7 y8:Value} {w5:World} {a0:Act} {l:Array Bool} {a:Act} {w:World} (hb8:w5.heap[b8]?=some (.cells #[y0,y1,y2,vE,y4,y5,y6,y7,y8] 106 (0,0))) (h:of4I k m b8 T vg y0 y1 y2 vE y4 y5 y6 y7 y8 w5 a0 l a w):Until 10 (fun W=>W.cell? ⟨b8,0,none⟩=some y0∧W.cell? ⟨b8,1,none⟩=some y1∧W.cell? ⟨b8,2,none⟩=some y2∧W.cell? ⟨b8,3,none⟩=some vE∧W.cell? ⟨b8,4,none⟩=some y4∧W.cell? ⟨b8,5,none⟩=some y5∧W.cell? ⟨b8,6,none⟩=some y6∧W.cell? ⟨b8,7,none⟩=some y7∧W.cell? ⟨b8,8,none⟩=some y8) (fun _=>True) l w:=by
 obtain ⟨x34,x38,x39,x10,o,ha,HR,H3,H7,H8,H9,B1,B2,HG⟩:=h
 obtain ⟨q0,q1,q2,q3,q4,q5,q6,q7,q8⟩:=zW (zE hb8 HG (by simp))
 exact ⟨⟨q0,q1,q2,q3,q4,q5,q6,q7,q8⟩,fun _=>trivial⟩
theorem of4_R {k m b8:Nat} {T:List (List Nat)} {vg y0 y1 y2 vE y4 y5 y6 y7 y8:Value} {w5:World} {a0:Act} {l:Array Bool} {a:Act} {w:World} (h:of4I k m b8 T vg y0 y1 y2 vE y4 y5 y6 y7 y8 w5 a0 l a w):∀ j∈[0,1,2,4,5,6],l.getD j true=true:=by
 obtain ⟨x34,x38,x39,x10,o,ha,HR,H3,H7,H8,H9,B1,B2,HG⟩:=h
 exact HR
set_option maxRecDepth 100000 in
set_option maxHeartbeats 8000000 in
theorem of4_steps {k m b8:Nat} {T:List (List Nat)} {vg y0 y1 y2 vE y4 y5 y6 y7 y8:Value} {w5:World} {v0 v1 v2 v3 v4 v5 v6 v7 v8 v9 v10 v11 v12 v13 v14 v15 v16 v17 v18 v19 v20 v21 v22 v23 v24 v25 v26 v27 v28 v29 v30 v34 v38 v39 v40 v41 v42 v43 v44 v45 v46 v47 v48 v49 v50 v51 v52 v53 v54 v55 v56 v57 v58 v59 v60 v61 v62 v63 v64 v65 v66 v67 v68 v69 v70 v71 v72 v73 v74 v75 v76 v77 v78 v79 v80 v81 v82 v83 v84 v85 v86 v87 v88 v89 v90 v91 v92 v93 v94 v95 v96 v97 v98 v99 v100:Value} {dd:_} {a0:Act} (ha0:a0=⟨#[v0,v1,v2,v3,v4,v5,v6,v7,v8,v9,v10,v11,v12,v13,v14,v15,v16,v17,v18,v19,v20,v21,v22,v23,v24,v25,v26,v27,v28,v29,v30,vg,.int .i64 k,.agg #[y0,y1,y2,vE,y4,y5,y6,y7,y8],v34,.pointer (some ⟨b8,3,none⟩),vE,.int .i64 m,v38,v39,v40,v41,v42,v43,v44,v45,v46,v47,v48,v49,v50,v51,v52,v53,v54,v55,v56,v57,v58,v59,v60,v61,v62,v63,v64,v65,v66,v67,v68,v69,v70,v71,v72,v73,v74,v75,v76,v77,v78,v79,v80,v81,v82,v83,v84,v85,v86,v87,v88,v89,v90,v91,v92,v93,v94,v95,v96,v97,v98,v99,v100],dd⟩) (HTB:∀ W:World,w5.grownBy W none→Calls Tryd.prog 84 #[.agg #[y0,y1,y2,vE,y4,y5,y6,y7,y8]] W (kV W T)) (hTl:T.length=m) (hmk:∀ w:World,(Instr.makeSlice 25 (.int .i64 (m:Int)) (.int .i64 (m:Int))).run Tryd.prog w=.ok (.slice (some ⟨w.heap.size,0,none⟩) m m) (w.alloc (.cells (madeCells #[.bool false] m) 4))) (hmkz:Hid ((madeCells #[.bool false] m).toList=bls (List.replicate m false))) (hmx:m≤maxLen) (ops7:Array Oper) (Q7:Exit→Act→World→Prop):pJ (lH Tryd.prog .any ops7 Q7 (of4I k m b8 T vg y0 y1 y2 vE y4 y5 y6 y7 y8 w5 a0)) 0 (rZ Tryd.f46 4).toList:=by
 refine ⟨?s0,?s1,?s2,?s3,?s4,?s5,?s6,?s7,?s8,?s9,?s10,trivial⟩
 case s0 =>
  exact fun l a w h hun=>absurd (of4_R h 0 (by simp)) (by rw [hun];simp)
 case s1 =>
  exact fun l a w h hun=>absurd (of4_R h 1 (by simp)) (by rw [hun];simp)
 case s2 =>
  exact fun l a w h hun=>absurd (of4_R h 2 (by simp)) (by rw [hun];simp)
 case s3 =>
  intro l a w h hun hdep K hK
  obtain ⟨x34,x38,x39,x10,o,ha,HR,H3,H7,H8,H9,B1,B2,HG⟩:=h
  subst ha
  rw [ha0]
  simp only [zL,List.foldl_cons,List.foldl_nil,Act.put,sPa,sPb,sPc]
  go_simp
  go_at_call 84
  refine (HTB w HG).mono ?_
  rintro e w6 ⟨sa,sc,rfl,hown,hg6⟩
  rw [hTl] at hown ⊢
  refine hK.out _ _ ?_
  refine ⟨(.slice sa m sc),x38,x39,x10,o,?fa3,fun j hj=>zB (HR j hj),Kh (fun _=>⟨sa,sc,rfl,hown.base (Nat.zero_le _)⟩),Kh (fun h=>let ⟨g,e,ho⟩:=H7.out (zA (by decide) h);⟨g,e,yZ ho hg6⟩),Kh (fun h=>absurd (H8.out (zA (by decide) h)).1 (by rw [hun];simp)),Kh (fun h=>H9.out (zA (by decide) h)),Kh (fun h h9=>zE (B1.out (zA (by decide) h) (zC h9)) hg6 (by simp)),Kh (fun h=>absurd (B2.out (zA (by decide) h)).1 (by rw [hun];simp)),zF HG hg6 (by simp)⟩
  case fa3=>rw [ha0];simp only [zL,List.foldl_cons,List.foldl_nil,Act.put,sPa,sPb,sPc]
 case s4 =>
  exact fun l a w h hun=>absurd (of4_R h 4 (by simp)) (by rw [hun];simp)
 case s5 =>
  exact fun l a w h hun=>absurd (of4_R h 5 (by simp)) (by rw [hun];simp)
 case s6 =>
  exact fun l a w h hun=>absurd (of4_R h 6 (by simp)) (by rw [hun];simp)
 case s7 =>
  intro l a w h hun hdep K hK
  obtain ⟨x34,x38,x39,x10,o,ha,HR,H3,H7,H8,H9,B1,B2,HG⟩:=h
  subst ha
  rw [ha0]
  simp only [zL,List.foldl_cons,List.foldl_nil,Act.put,sPa,sPb,sPc]
  go_simp
  have hA7:=own_made hmkz.out HG.size hmx
  refine hK.out _ _ ?_
  refine ⟨x34,(.slice (some ⟨w.heap.size,0,none⟩) m m),x39,x10,o,?fa7,fun j hj=>zB (HR j hj),Kh (fun h=>let ⟨sa,sc,e,ho⟩:=H3.out (zA (by decide) h);⟨sa,sc,e,ho.grow (Ga w (.cells (madeCells #[.bool false] m) 4) none)⟩),Kh (fun _=>⟨w.heap.size,rfl,hA7⟩),Kh (fun h=>absurd (H8.out (zA (by decide) h)).2.1 (by rw [hun];simp)),Kh (fun h=>H9.out (zA (by decide) h)),Kh (fun h h9=>zE (B1.out (zA (by decide) h) (zC h9)) (Ga w (.cells (madeCells #[.bool false] m) 4) none) (by simp)),Kh (fun h=>absurd (B2.out (zA (by decide) h)).2.1 (by rw [hun];simp)),zF HG (Ga w (.cells (madeCells #[.bool false] m) 4) none) (by simp)⟩
  case fa7=>rw [ha0];simp only [zL,List.foldl_cons,List.foldl_nil,Act.put,sPa,sPb,sPc]
 case s8 =>
  intro l a w h hun hdep K hK
  obtain ⟨x34,x38,x39,x10,o,ha,HR,H3,H7,H8,H9,B1,B2,HG⟩:=h
  have DH3:=H3.out (zK (hdep ⟨3,.data⟩ (by simp) rfl))
  have DH7:=H7.out (zK (hdep ⟨7,.data⟩ (by simp) rfl))
  obtain ⟨sa,sc,rfl,hown⟩:=DH3
  obtain ⟨g7,rfl,hA7⟩:=DH7
  subst ha
  rw [ha0]
  simp only [zL,List.foldl_cons,List.foldl_nil,Act.put,sPa,sPb,sPc]
  go_simp
  refine hK.out _ _ ?_
  refine ⟨(.slice sa m sc),(.slice (some ⟨g7,0,none⟩) m m),(.agg #[.int .i64 k,.slice sa m sc,.slice none 0 0,.slice none 0 0,.slice none 0 0,.slice (some ⟨g7,0,none⟩) m m]),x10,o,?fa8,fun j hj=>zB (HR j hj),Kh (fun _=>⟨sa,sc,rfl,hown⟩),Kh (fun _=>⟨g7,rfl,hA7⟩),Kh (fun _=>⟨zB (zK (hdep ⟨3,.data⟩ (by simp) rfl)),zB (zK (hdep ⟨7,.data⟩ (by simp) rfl)),rfl⟩),Kh (fun h=>H9.out (zA (by decide) h)),Kh (fun h h9=>B1.out (zA (by decide) h) (zC h9)),Kh (fun h=>absurd (B2.out (zA (by decide) h)).2.2.1 (by rw [hun];simp)),HG⟩
  case fa8=>rw [ha0];simp only [zL,List.foldl_cons,List.foldl_nil,Act.put,sPa,sPb,sPc]
 case s9 =>
  intro l a w h hun hdep K hK
  obtain ⟨x34,x38,x39,x10,o,ha,HR,H3,H7,H8,H9,B1,B2,HG⟩:=h
  subst ha
  rw [ha0]
  simp only [zL,List.foldl_cons,List.foldl_nil,Act.put,sPa,sPb,sPc]
  go_simp
  refine hK.out _ _ ?_
  refine ⟨x34,x38,x39,(.pointer (some ⟨w.heap.size,0,none⟩)),w.heap.size,?fa9,fun j hj=>zB (HR j hj),Kh (fun h=>let ⟨sa,sc,e,ho⟩:=H3.out (zA (by decide) h);⟨sa,sc,e,ho.grow (Ga w (.cells #[.int .i64 0,.slice none 0 0,.slice none 0 0,.slice none 0 0,.slice none 0 0,.slice none 0 0] 33) none)⟩),Kh (fun h=>let ⟨g,e,ho⟩:=H7.out (zA (by decide) h);⟨g,e,yZ ho (Ga w (.cells #[.int .i64 0,.slice none 0 0,.slice none 0 0,.slice none 0 0,.slice none 0 0,.slice none 0 0] 33) none)⟩),Kh (fun h=>⟨zB (H8.out (zA (by decide) h)).1,zB (H8.out (zA (by decide) h)).2.1,(H8.out (zA (by decide) h)).2.2⟩),Kh (fun _=>⟨rfl,HG.size⟩),Kh (fun _ _=>heap_alloc_new w _),Kh (fun h=>absurd (B2.out (zA (by decide) h)).2.2.2.1 (by rw [hun];simp)),zF HG (Ga w (.cells #[.int .i64 0,.slice none 0 0,.slice none 0 0,.slice none 0 0,.slice none 0 0,.slice none 0 0] 33) none) (by simp)⟩
  case fa9=>rw [ha0];simp only [zL,List.foldl_cons,List.foldl_nil,Act.put,sPa,sPb,sPc]
 case s10 =>
  intro l a w h hun hdep K hK
  obtain ⟨x34,x38,x39,x10,o,ha,HR,H3,H7,H8,H9,B1,B2,HG⟩:=h
  have DH9:=H9.out (zK (hdep ⟨9,.data⟩ (by simp) rfl))
  have DB1:=B1.out (zK (hdep ⟨9,.data⟩ (by simp) rfl))
  have DH8:=H8.out (zK (hdep ⟨8,.data⟩ (by simp) rfl))
  have DH3:=H3.out (zK (hdep ⟨3,.chain⟩ (by simp) rfl))
  have DH7:=H7.out (zK (hdep ⟨7,.phase⟩ (by simp) rfl))
  obtain ⟨rfl,ho⟩:=DH9
  obtain ⟨hd3,hd7,rfl⟩:=DH8
  obtain ⟨sa,sc,rfl,hown⟩:=H3.out hd3
  have hd8:=zK (hdep ⟨8,.data⟩ (by simp) rfl)
  have hd9:=zK (hdep ⟨9,.data⟩ (by simp) rfl)
  obtain ⟨g7,rfl,hA7⟩:=H7.out hd7
  have hb:=DB1 hun
  subst ha
  rw [ha0]
  simp only [zL,List.foldl_cons,List.foldl_nil,Act.put,sPa,sPb,sPc]
  obtain ⟨k0,k1,k2,k3,k4,k5⟩:=yM hb
  have f0:=zD hb 0;have f1:=zD hb 1;have f2:=zD hb 2;have f3:=zD hb 3;have f4:=zD hb 4;have f5:=zD hb 5
  go_simp
  obtain ⟨hs9,hg9⟩:=uX hb (.int .i64 k) (.slice sa m sc) (.slice none 0 0) (.slice none 0 0) (.slice none 0 0) (.slice (some ⟨g7,0,none⟩) m m)
  refine hK.out _ _ ?_
  refine ⟨(.slice sa m sc),(.slice (some ⟨g7,0,none⟩) m m),(.agg #[.int .i64 k,.slice sa m sc,.slice none 0 0,.slice none 0 0,.slice none 0 0,.slice (some ⟨g7,0,none⟩) m m]),(.pointer (some ⟨o,0,none⟩)),o,?fa10,fun j hj=>zB (HR j hj),Kh (fun _=>⟨sa,sc,rfl,hown.other hg9 hb (by decide) (by decide)⟩),Kh (fun _=>⟨g7,rfl,hA7.kept hg9 (.inr (zS hA7 hb (by decide)))⟩),Kh (fun _=>⟨zB hd3,zB hd7,rfl⟩),Kh (fun _=>⟨rfl,ho⟩),Kh (fun _ h9=>zY h9),Kh (fun _=>⟨zB hd3,zB hd7,zB hd8,zB hd9,hs9⟩),zF HG hg9 (fun q e=>by have e:o=q:=Oj e;omega)⟩
  case fa10=>rw [ha0];simp only [zL,List.foldl_cons,List.foldl_nil,Act.put,sPa,sPb,sPc]
end Go.Proofs.YtdjhoadoiknaoaaDoor
