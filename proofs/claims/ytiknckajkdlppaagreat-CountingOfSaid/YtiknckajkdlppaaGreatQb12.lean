/- Part 12 of the proof. -/
import Derived.Test.YtiknckajkdlppaaGreatQb10
import Derived.Test.YtiknckajkdlppaaGreatQb11
import Derived.Deep.OwnRows
set_option linter.unusedVariables false
set_option linter.unusedSimpArgs false
set_option maxRecDepth 100000
set_option maxHeartbeats 16000000
namespace Go.Proofs.YtiknckajkdlppaaGreat
open Go.RowKit
variable{l:List Nat}{q x b8 B' i:Nat}{bs:List Bool}{T ts el:List (List Nat)}{vg y0 y1 y2 vE y4 y5 y6 y7 y8 v:Value}{w5:World}{a0 a:Act}{row:Option Nat}
theorem aJ {n:Nat}(h:q∈l\/n<=q):metL n (l++[q])=metL n l:=by
 refine List.ext_getElem (by simp[metL]) fun i h1 h2=>?_;simp only[metL,List.getElem_map,List.getElem_range,List.mem_append,List.mem_singleton];congr 1;refine propext ⟨?_,.inl⟩;rintro (h3|rfl)
 ·exact h3
 rcases h with h|h
 ·exact h
 simp[metL]at h1;omega
theorem qIY (B:Nat)(w:World)(v:Value)(l:List Nat)(n:Nat)(h:Row B w v (nats l))(hB:B<=w.heap.size)(hn:n<=100000):Calls Tryz.prog 64 #[v,.int .i64 (n:Int)] w fun e w'=>e=.returned (.slice (some ⟨w.heap.size,0,none⟩) n n)/\Arr w' w.heap.size 4 (bls (metL n l))/\w.grownBy w' none:=by
 have h5:=h.len_le;rw[zV]at h5;unfold maxLen at h5;obtain⟨va,vc,rfl⟩:=h.shape;rw[zV]at h⊢;have H:=Kh h;clear h;go_enter Tryz.func64,Tryz.ntmps64;go_wp2_with (first|(at_make;refine pL rfl _ _ _ rfl xK rfl .i64 .i64 _ _ n rfl rfl rfl rfl ?b1 ?b2 ?_;(case b1=>omega);(case b2=>(unfold maxLen;omega));intro w2 h0 h6 H1)|fail);have h9:=Kh h0;have h8:=Kh h6;clear h0 h6
 go_loopg [7,12] l.length (fun gh a7 i wr=>∃k:Nat,gh+k=l.length/\i=.int .i64 k/\Arr wr w.heap.size 4 (bls (metL n (l.take k)))/\w.grownBy wr none)
 case atStart=>exact⟨0,rfl,rfl,by rw[List.take_zero,aK,qQ];exact h9.out,h8.out⟩
 clear h9 h8;obtain⟨k,hg,rfl,h0,h2⟩:=hrel;obtain⟨HG,HA,h4⟩:=Kc hg h0 h2;clear hg;by_cases hk:k<l.length
 ·have H2:(k:Int)<l.length:=yo
  obtain⟨ib,io,ic,e,_,H4,H3,h3⟩:=(H.out.kept h2 yq).some_ (by rw[zV];omega);simp only[Value.slice.injEq]at e;obtain⟨rfl,-,rfl⟩:=e;have ck:=h3.nat k hk;have h1:l.take (k+1)=l.take k++[l.getD k 0]:=yH hk;obtain⟨x,hx⟩:=Nm (l.getD k 0);rw[<-hx]at ck h1;by_cases hxn:x<n
  ·have H0:(x:Int)<n:=yo
   have cg:=h0.bool x (by rw[wF];exact hxn);have fg:=h0.frozen x;have HS:Hid ((metL n (l.take k)).set x true=metL n (l.take (k+1))):=Kh (by rw[jO,h1]);clear h0 h2 h3 hx h1;go_wp2;go_roundg (l.length-(k+1))
   case measure=>have:=HG.out;omega
   refine⟨k+1,yo,by go_num,?_,zE h4.out (zH wr ⟨w.heap.size,x,none⟩ _) (fun q e=>by have h7:w.heap.size=q:=Oj e;omega)⟩;rw[<-HS.out];exact HA.out.bool_set x (by rw[wF];exact hxn) true
  have H0:(n:Int)<=x:=yo
  have HS:Hid (metL n (l.take (k+1))=metL n (l.take k)):=Kh (by rw[h1,aJ (.inr yo)]);clear h0 h2 h3 hx h1;go_wp2;go_roundg (l.length-(k+1))
  case measure=>have:=HG.out;omega
  exact⟨k+1,yo,by go_num,by rw[HS.out];exact HA.out,h4.out⟩
 have HE:Hid (l.take k=l):=Kh (List.take_of_length_le yo);rw[HE.out]at HA;clear h0 h2;go_wp2;go_ret;exact⟨rfl,HA.out,h4.out⟩
def mH (bs:List Bool):List Nat:=(List.range bs.length).filter fun i=>bs.getD i false
def pO (bs:List Bool)(k:Nat):List Nat:=(List.range k).filter fun i=>bs.getD i false
theorem qDO {k:Nat}:pO bs (k+1)=pO bs k++if bs.getD k false then [k] else []:=by
 unfold pO;rw[List.range_succ,List.filter_append,List.filter_cons,List.filter_nil]
theorem qKL (bs:List Bool)(k:Nat):(pO bs k).length<=k:=by
 have:=List.length_filter_le (fun i=>bs.getD i false) (List.range k);rw[List.length_range]at this;exact this
theorem qDN (w:World)(g:Nat)(bs:List Bool)(h:uE w g 0 (bls bs))(hn:bs.length<=100000):Calls Tryz.prog 65 #[.slice (some ⟨g,0,none⟩) bs.length bs.length] w fun e w'=>(∃(sa:Option Addr) (sc:Nat),e=.returned (.slice sa (mH bs).length sc)/\w'.ownsRow w.heap.size 3 1 (.slice sa (mH bs).length sc) (mH bs).length (nats (mH bs)))/\w.grownBy w' none:=by
 have H:=Kh h;have H3:=h.1;clear h;go_enter Tryz.func65,Tryz.ntmps65;go_wp2
 go_loopg [3,4,5,8] bs.length (fun gh v3 a4 a5 i wr=>∃(k:Nat) (sa:Option Addr) (sc:Nat),gh+k=bs.length/\i=.int .i64 k/\v3=.slice sa (pO bs k).length sc/\wr.ownsRow w.heap.size 3 1 (.slice sa (pO bs k).length sc) (pO bs k).length (nats (pO bs k))/\w.grownBy wr none)
 case atStart=>exact⟨0,none,0,rfl,rfl,rfl,World.ownsRow_nil _ _ _ _,zX _ _⟩
 obtain⟨k,sa,sc,hg,rfl,rfl,h2,h3⟩:=hrel;obtain⟨HG,HO,h4⟩:=Kc hg h2 h3;have h8:=qKL bs k;clear hg h2;by_cases hk:k<bs.length
 ·have H4:(k:Int)<bs.length:=yo
  have ck:=uE.map (H.out.kept h3 yq) k hk;rw[<-zQ (d:=false) hk,Nat.zero_add]at ck;have H0:=h3.size;have h1:=qDO (bs:=bs) (k:=k);clear h3;cases hb:bs.getD k false with
  | true =>
   rw[hb]at ck h1;have HS:Hid (pO bs (k+1)=pO bs k++[k]):=Kh (by rw[h1];rfl);obtain⟨A,hA⟩:=Nm (pO bs k);rw[<-hA]at HO HS h8⊢;clear hb h1 hA;go_wp2_with (first|(at_builtin;refine app1 rfl _ _ _ rfl yJ w.heap.size _ A.length (nats A) rfl HO.out _ rfl rfl ?c1 ?c2 ?c3 ?_)|fail)
   case c1=>unfold maxLen;omega
   case c2=>omega
   case c3=>exact H0
   intro sa' sc' w6 h0 h6 h9;have H1:=Kh h0;have H2:=Kh h6;clear h0 h6;go_wp2;go_roundg (bs.length-(k+1))
   case measure=>have:=HG.out;omega
   refine⟨k+1,sa',sc',yo,by go_num,by rw[HS.out];simp,?_,zE h4.out H2.out (fun q e=>(HO.out.lt q e).1)⟩;rw[HS.out,qF,List.length_append];exact H1.out
  | false =>
   rw[hb]at ck h1;have HS:Hid (pO bs (k+1)=pO bs k):=Kh (by rw[h1];simp);clear hb h1;go_wp2;go_roundg (bs.length-(k+1))
   case measure=>have:=HG.out;omega
   exact⟨k+1,sa,sc,yo,by go_num,by rw[HS.out],by rw[HS.out];exact HO.out,h4.out⟩
 have h5:k=bs.length:=by have:=HG.out;omega
 have HE:Hid (pO bs k=mH bs):=Kh (by rw[h5];rfl);rw[HE.out]at HO⊢;obtain⟨A,hA⟩:=Nm (mH bs);have h7:=Kh hA;rw[<-hA]at HO⊢;clear h5 h3 hA;go_wp2;go_ret;exact⟨⟨sa,sc,by rw[<-h7.out];rfl,by rw[<-h7.out];exact HO.out⟩,h4.out⟩
def pY (t:List (List Int))(m:List Nat):Prop:=∀x∈m,∀y∈m,entN t x y∈m
def qPJ (t:List (List Int))(m:List Nat)(k j:Nat):Prop:=∀x∈m,∀y∈m,(x<k\/(x=k/\y<j))->entN t x y∈m
structure GenI (t:List (List Int))(gs m:List Nat):Prop where
 nd:m.Nodup
 lt:∀x∈m,x<t.length
 base:∀x∈gs,x∈m
 gen:∀x∈m,Gen t gs x
theorem GenI.add {t:List (List Int)}(hs:Shape t){gs m:List Nat}(h:GenI t gs m){y:Nat}(hx:x∈m)(hy:y∈m)(hz:entN t x y ∉ m):GenI t gs (m++[entN t x y]) where
 nd:=by
  rw[List.nodup_append];exact⟨h.nd,yq,fun a ha b hb=>by rw[List.mem_singleton]at hb;subst hb;rintro rfl;exact hz ha⟩
 lt:=fun z hz=>by
  rcases List.mem_append.1 hz with hz|hz
  ·exact h.lt z hz
  ·rw[List.mem_singleton]at hz;subst hz;exact qK hs (h.lt x hx) (h.lt y hy)
 base:=fun z hz=>List.mem_append_left _ (h.base z hz)
 gen:=fun z hz=>by
  rcases List.mem_append.1 hz with hz|hz
  ·exact h.gen z hz
  ·rw[List.mem_singleton]at hz;subst hz;exact .mul x y (h.gen x hx) (h.gen y hy)
def qUI (w:World)(t:List (List Int))(gs:List Nat)(e:Ending)(w':World):Prop :=
 ∃m:List Nat,GenI t gs m/\pY t m/\(∃(sa:Option Addr) (sc:Nat),e=.returned (.slice sa (mH (metL t.length m)).length sc)/\w'.ownsRow w.heap.size 3 1 (.slice sa (mH (metL t.length m)).length sc) (mH (metL t.length m)).length (nats (mH (metL t.length m))))/\w.grownBy w' none
theorem aQ (B C:Nat)(w:World)(v gv:Value)(t:List (List Int))(gs:List Nat)(hB:B<=w.heap.size)(hC:C<=w.heap.size)(h:Mat B w v t)(hs:Shape t)(hg:Row C w gv (nats gs))(a9:∀g∈gs,g<t.length):Calls Tryz.prog 43 #[v,gv] w (qUI w t gs):=by
 obtain⟨tb,off,cap,RB,RO,RC,rfl,c8,b5,hq⟩:=h.sq hs;have d8:cap<=9223372036854775807:=jl b5
 obtain⟨n,hn⟩:=Nm t.length;have c5:=hs.le;have c6:=hs.pos;have b6:=Kh (qIY C w gv gs n hg hC yo);obtain⟨HQ,HS,h5,d2⟩:=Kd hq hs hn a9;rw[<-hn]at c8 c5 c6⊢;clear h hs hg hq a9 b5 hn;go_enter Tryz.func43,Tryz.ntmps43;go_wp2_with fail;refine b6.out.mono ?_;rintro e w1 ⟨rfl,H7,b3⟩
 have H4:metL n gs=metL n (yT gs):=by
  refine List.ext_getElem (by simp[metL]) fun i h1 h2=>?_;simp only[metL,List.getElem_map,List.getElem_range,wI]
 rw[H4]at H7;have b8:Hid (GenI t gs (yT gs)):=Kh ⟨rH _,fun x hx=>d2.out x (wI.1 hx),fun x hx=>wI.2 hx,fun x hx=>.base x (wI.1 hx)⟩;obtain⟨G,hG⟩:=Nm w.heap.size;have d3:=Kh hG;rw[<-hG]at H7⊢;have c3:=Kh H7;have c1:=Kh b3;clear H7 b3 H4 hG b6;go_wp2
 go_loopg [6] (2*n+1) (fun gh v6 wr=>∃(m:List Nat) (b:Bool),v6=.bool b/\2*(n-m.length)+(if b then 1 else 0)<=gh/\GenI t gs m/\(b=false->pY t m)/\Arr wr G 4 (bls (metL n m))/\w.grownBy wr none)
 case atStart=>exact⟨yT gs,true,rfl,by simp;omega,b8.out,(fun h=>by cases h),c3.out,c1.out⟩
 clear c3 c1 b8;obtain⟨m,b,rfl,b1,H6,b4,h3,h8⟩:=hrel;obtain⟨c0,b9,d5,HA,h4⟩:=Ke b1 H6 b4 h3 h8;have d9:m.length<=n:=qN H6.nd (fun q hq=>by rw[h5.out];exact H6.lt q hq);clear b1 H6 b4 h3 h8;cases b with
 | false =>
  have H5:=d5.out rfl;have HM:=Kh (fun W hW=>qDN W G (metL n m) hW (by rw[wF];omega));have a5:=wF n m;obtain⟨bs,c9⟩:=Nm (metL n m);have a4:=HA.out.row;have b7:=Kh (HM.out wr a4);rw[a5]at b7;have a3:=Kh H5;clear a4 a5 c9 H5 HM;go_wp2_with fail;refine b7.out.mono ?_;rintro e w5 ⟨⟨sa,sc,rfl,ho⟩,b2⟩;have HO:=Kh ho;have d4:=Kh b2;obtain⟨A,hA⟩:=Nm (mH (metL n m));have c2:=Kh hA;rw[<-hA]at HO⊢;clear ho b2 hA;go_wp2;go_ret;refine⟨m,b9.out,a3.out,⟨sa,sc,?_,?_⟩,zI h4.out d4.out⟩
  ·rw[<-h5.out,<-c2.out];rfl
  rw[<-h5.out,<-c2.out];exact xO HO.out h4.out.size
 | true =>
  go_wp2
  go_loopg [6,7,16] n (fun gx v6 a7 i wr=>∃(k:Nat) (m':List Nat) (c:Bool),gx+k=n/\i=.int .i64 k/\v6=.bool c/\m.length<=m'.length/\(c=true->m.length<m'.length)/\(c=false->qPJ t m' k 0)/\GenI t gs m'/\Arr wr G 4 (bls (metL n m'))/\w.grownBy wr none)
  case atStart=>exact⟨0,m,false,rfl,rfl,rfl,Nat.le_refl _,(fun h=>by cases h),(fun _ x hx y hy h=>by omega),b9.out,HA.out,h4.out⟩
  clear HA h4;obtain⟨k,m',c,b0,rfl,rfl,H2,hc,H3,h6,h3,h8⟩:=hrel;obtain⟨d1,HC,H0,h0,HA,h4⟩:=Kf b0 hc H3 h6 h3 h8;have h9:=Kh H2;clear b0 hc H3 h6 h3 h8 H2;by_cases hk:k<n
  ·have e1:(k:Int)<n:=yo
   go_wp2
   go_loopg [6,8,21] n (fun gy v6 a8 i wr=>∃(j:Nat) (m':List Nat) (c:Bool),gy+j=n/\i=.int .i64 j/\v6=.bool c/\m.length<=m'.length/\(c=true->m.length<m'.length)/\(c=false->qPJ t m' k j)/\GenI t gs m'/\Arr wr G 4 (bls (metL n m'))/\w.grownBy wr none)
   case atStart=>exact⟨0,m',c,rfl,rfl,rfl,h9.out,HC.out,H0.out,h0.out,HA.out,h4.out⟩
   clear HA h4 HC H0 h0 h9;obtain⟨j,m',c,a6,rfl,rfl,H2,hc,H3,h6,h3,h8⟩:=hrel;obtain⟨H8,HC,H0,h0,HA,h4⟩:=Kf a6 hc H3 h6 h3 h8;have h9:=Kh H2;clear a6 hc H3 h6 H2;by_cases hj:j<n
   ·have e2:(j:Int)<n:=yo
    have hq:=HQ.out.kept h8 (fun x e=>by cases e);have ch:=hq.hd k (by rw[<-h5.out];exact hk);have ce:=hq.el k j (by rw[<-h5.out];exact hk) (by rw[<-h5.out];exact hj);have c4:=(hq.cap k (by rw[<-h5.out];exact hk)).1;rw[<-h5.out]at ch c4;have hz:=qK HS.out (show k<t.length by rw[<-h5.out];exact hk) (show j<t.length by rw[<-h5.out];exact hj);rw[<-h5.out]at hz;have cx:=h3.bool k (by rw[wF];exact hk);have cy:=h3.bool j (by rw[wF];exact hj);rw[lK hk]at cx;rw[lK hj]at cy;obtain⟨z,H9⟩:=Nm (entN t k j);rw[<-H9]at ce hz;have cz:=h3.bool z (by rw[wF];exact hz);rw[lK hz]at cz;have fz:=h3.frozen z;have d6:(z:Int)<n:=yo;have a0:=Kh H9;clear H9 hq h3 h8
    have skip:(k∈m'->j∈m'->z∈m')->Hid (c=false->qPJ t m' k (j+1)):=fun h=>Kh (fun hcf x hx y hy hxy=>by
     rcases hxy with hxy|⟨rfl,hy1⟩
     ·exact H0.out hcf x hx y hy (.inl hxy)
     rcases Nat.lt_succ_iff_lt_or_eq.1 hy1 with hy1|rfl
     ·exact H0.out hcf x hx y hy (.inr ⟨rfl,hy1⟩)
     rw[<-a0.out];exact h hx hy)
    have a1:=Kh skip;clear skip;by_cases hkm:k∈m'
    ·rw[decide_eq_true hkm]at cx
     by_cases hjm:j∈m'
     ·rw[decide_eq_true hjm]at cy
      by_cases hzm:z∈m'
      ·rw[decide_eq_true hzm]at cz
       have H1:=a1.out (fun _ _=>hzm);clear hkm hjm hzm;go_wp2;go_roundg (n-(j+1))
       case measure=>have:=H8.out;omega
       exact⟨j+1,m',c,yo,by go_num,rfl,h9.out,HC.out,H1.out,h0.out,HA.out,h4.out⟩
      rw[decide_eq_false hzm]at cz;have d0:Hid (GenI t gs (m'++[z])):=Kh (by have:=h0.out.add HS.out hkm hjm (by rw[<-a0.out];exact hzm);rwa [<-a0.out]at this);clear hkm hjm hzm;go_wp2;go_roundg (n-(j+1))
      case measure=>have:=H8.out;omega
      refine⟨j+1,m'++[z],true,yo,by go_num,rfl,by have:=h9.out;simp;omega,fun _=>by have:=h9.out;simp;omega,(fun h=>by cases h),d0.out,?_,zE h4.out (zH wr ⟨G,z,none⟩ _) (fun q e=>by have h7:G=q:=Oj e;have:=d3.out;omega)⟩;have h1:=HA.out.bool_set z (by rw[wF];exact hz) true;rw[jO]at h1;exact h1
     rw[decide_eq_false hjm]at cy;have H1:=a1.out (fun _ h=>absurd h hjm);clear hkm hjm cz;go_wp2;go_roundg (n-(j+1))
     case measure=>have:=H8.out;omega
     exact⟨j+1,m',c,yo,by go_num,rfl,h9.out,HC.out,H1.out,h0.out,HA.out,h4.out⟩
    rw[decide_eq_false hkm]at cx;have H1:=a1.out (fun h=>absurd h hkm);clear hkm cz;go_wp2;go_roundg (n-(j+1))
    case measure=>have:=H8.out;omega
    exact⟨j+1,m',c,yo,by go_num,rfl,h9.out,HC.out,H1.out,h0.out,HA.out,h4.out⟩
   have H1:Hid (c=false->qPJ t m' (k+1) 0):=Kh (fun hcf x hx y hy hxy=>by
    have d7:=h0.out.lt y hy;have:=h5.out;refine H0.out hcf x hx y hy ?_
    omega)
   clear h3 h8;go_wp2;go_roundg (n-(k+1))
   case measure=>have:=d1.out;omega
   exact⟨k+1,m',c,yo,by go_num,rfl,h9.out,HC.out,H1.out,h0.out,HA.out,h4.out⟩
  have a2:Hid (c=false->pY t m'):=Kh (fun hcf x hx y hy=>H0.out hcf x hx y hy (.inl (by have:=h0.out.lt x hx;have:=h5.out;omega)));have c7:m'.length<=n:=qN h0.out.nd (fun q hq=>by rw[h5.out];exact h0.out.lt q hq);cases c with
  | true =>
   have e0:=HC.out rfl;go_wp2;go_roundg (2*(n-m'.length)+1)
   case measure=>have:=c0.out;simp at this;omega
   exact⟨m',true,rfl,yq,h0.out,(fun h=>by cases h),HA.out,h4.out⟩
  | false =>
   have H2:=h9.out;go_wp2;go_roundg (2*(n-m'.length))
   case measure=>have:=c0.out;simp at this;omega
   exact⟨m',false,rfl,yq,h0.out,(fun _=>a2.out trivial),HA.out,h4.out⟩
theorem qNG {w:World}{b m:Nat}(h:(madeCells #[.bool false] m).toList=bls (List.replicate m false))(hb:b<=w.heap.size)(hm:m<=maxLen):(w.alloc (.cells (madeCells #[.bool false] m) 4)).ownsRow b 4 1 (.slice (some ⟨w.heap.size,0,none⟩) m m) m (bls (List.replicate m false)):=by
 refine⟨by simp[bls],.inr ⟨w.heap.size,m,_,rfl,hb,heap_alloc_new w _,Nat.le_refl _,hm,?_,?_⟩⟩
 ·rw[<-Array.length_toList,h];simp[bls]
 rw[h];simp[bls]
inductive of4I (k m b8:Nat)(T:List (List Nat))(vg y0 y1 y2 vE y4 y5 y6 y7 y8:Value)(w5:World)(a0:Act)(l:Array Bool)(a:Act)(w:World):Prop
 | mk (x34:Value) (x38:Value) (x39:Value) (x10:Value) (o:Nat) (ha:a=yK a0 [(34,x34),(38,x38),(39,x39),(10,x10)]) (HR:∀j∈[0,1,2,4,5,6],l.getD j true=true) (H3:Hid (l.getD 3 true=true->∃sa sc,x34=.slice sa m sc/\OwnT 0 w (.slice sa m sc) m T)) (H7:Hid (l.getD 7 true=true->∃g,x38=.slice (some ⟨g,0,none⟩) m m/\w.ownsRow w5.heap.size 4 1 (.slice (some ⟨g,0,none⟩) m m) m (bls (List.replicate m false)))) (H8:Hid (l.getD 8 true=true->l.getD 3 true=true/\l.getD 7 true=true/\x39=.agg #[.int .i64 k,x34,.slice none 0 0,.slice none 0 0,.slice none 0 0,x38])) (H9:Hid (l.getD 9 true=true->x10=.pointer (some ⟨o,0,none⟩)/\w5.heap.size<=o)) (B1:Hid (l.getD 9 true=true->(l.getD 10 true=false->w.heap[o]?=some (.cells #[.int .i64 0,.slice none 0 0,.slice none 0 0,.slice none 0 0,.slice none 0 0,.slice none 0 0] 39 (0,0))))) (B2:Hid (l.getD 10 true=true->l.getD 3 true=true/\l.getD 7 true=true/\l.getD 8 true=true/\l.getD 9 true=true/\w.heap[o]?=some (.cells #[.int .i64 k,x34,.slice none 0 0,.slice none 0 0,.slice none 0 0,x38] 39 (0,0)))) (HG:(w5.grownBy w none))
theorem qTY {k m:Nat}{l:Array Bool}{w:World}(a9:w5.heap[b8]?=some (.cells #[y0,y1,y2,vE,y4,y5,y6,y7,y8] 75 (0,0)))(h:of4I k m b8 T vg y0 y1 y2 vE y4 y5 y6 y7 y8 w5 a0 l a w):xM 10 (fun W=>W.cell? ⟨b8,0,none⟩=some y0/\W.cell? ⟨b8,1,none⟩=some y1/\W.cell? ⟨b8,2,none⟩=some y2/\W.cell? ⟨b8,3,none⟩=some vE/\W.cell? ⟨b8,4,none⟩=some y4/\W.cell? ⟨b8,5,none⟩=some y5/\W.cell? ⟨b8,6,none⟩=some y6/\W.cell? ⟨b8,7,none⟩=some y7/\W.cell? ⟨b8,8,none⟩=some y8) (fun _=>True) l w:=by
 obtain⟨x34,x38,x39,x10,o,ha,HR,H3,H7,H8,H9,B1,B2,HG⟩:=h;obtain⟨q0,q1,q2,q3,q4,q5,q6,q7,q8⟩:=yD (zD a9 HG);exact⟨⟨q0,q1,q2,q3,q4,q5,q6,q7,q8⟩,fun _=>trivial⟩
theorem qGV {k m:Nat}{l:Array Bool}{w:World}(h:of4I k m b8 T vg y0 y1 y2 vE y4 y5 y6 y7 y8 w5 a0 l a w):∀j∈[0,1,2,4,5,6],l.getD j true=true:=by
 obtain⟨x34,x38,x39,x10,o,ha,HR,H3,H7,H8,H9,B1,B2,HG⟩:=h;exact HR
theorem qJU {k m:Nat}{v0 v1 v2 v3 v4 v5 v6 v7 v8 v9 l7 l8 l9 k6 k7 k8 k9 j0 j1 j2 j3 j4 j5 j6 j7 j8 j9 i0 i1 i2 i3 i4 i5 i6 i7 i8 i9 g0 g1 g2 g3 g4 g5 g6 g8 g9 f6 f7 f8 f9 e0 e1 e2 e3 e4 e5 e6 e7 e8 e9 d0 d1 d2 d3 d4 d5 d6 d7 d8 d9 c0 c1 c2 c3 c4 c5 c6 c7 c8 c9 b0 b1 b2 b3 b4 b5 b6 b7 b9 a1 a2 a3 a4 a5 a8:Value}{dd:_}(a9:a0=⟨#[v0,v1,v2,v3,v4,v5,v6,v7,v8,v9,l7,l8,l9,k6,k7,k8,k9,j0,j1,j2,j3,j4,j5,j6,j7,j8,j9,i0,i1,i2,i3,vg,.int .i64 k,.agg #[y0,y1,y2,vE,y4,y5,y6,y7,y8],i4,.pointer (some ⟨b8,3,none⟩),vE,.int .i64 m,i5,i6,i7,i8,i9,g0,g1,g2,g3,g4,g5,g6,g8,g9,f6,f7,f8,f9,e0,e1,e2,e3,e4,e5,e6,e7,e8,e9,d0,d1,d2,d3,d4,d5,d6,d7,d8,d9,c0,c1,c2,c3,c4,c5,c6,c7,c8,c9,b0,b1,b2,b3,b4,b5,b6,b7,b9,a1,a2,a3,a4,a5,a8],dd⟩)(l4:∀W:World,w5.grownBy W none->Calls Tryz.prog 40 #[.agg #[y0,y1,y2,vE,y4,y5,y6,y7,y8]] W (eW W T))(l5:T.length=m)(l3:∀w:World,(Instr.makeSlice 26 (.int .i64 (m:Int)) (.int .i64 (m:Int))).run Tryz.prog w=.ok (.slice (some ⟨w.heap.size,0,none⟩) m m) (w.alloc (.cells (madeCells #[.bool false] m) 4)))(a6:Hid ((madeCells #[.bool false] m).toList=bls (List.replicate m false)))(l6:m<=maxLen)(a7:Array Oper)(Q7:Exit->Act->World->Prop):qI (mX Tryz.prog .any a7 Q7 (of4I k m b8 T vg y0 y1 y2 vE y4 y5 y6 y7 y8 w5 a0)) 0 (rL Tryz.f23 4).toList:=by
 refine⟨?s0,?s1,?s2,?s3,?s4,?s5,?s6,?s7,?s8,?s9,?s10,trivial⟩
 case s0 =>
  exact fun l a w h h1=>absurd (qGV h 0 yq) (by rw[h1];simp)
 case s1 =>
  exact fun l a w h h1=>absurd (qGV h 1 yq) (by rw[h1];simp)
 case s2 =>
  exact fun l a w h h1=>absurd (qGV h 2 yq) (by rw[h1];simp)
 case s3 =>
  intro l a w h h1 h0 K hK;obtain⟨x34,x38,x39,x10,o,ha,HR,H3,H7,H8,H9,B1,B2,HG⟩:=h;subst ha;rw[a9];simp only[yK,List.foldl_cons,List.foldl_nil,Act.put,sPa,sPb,sPc];go_simp
  go_at_call 40
  refine(l4 w HG).mono ?_;rintro e w6 ⟨sa,sc,rfl,h2,h5⟩;rw[l5]at h2⊢;refine hK.out _ _ ?_;refine⟨(.slice sa m sc),x38,x39,x10,o,?fa3,fun j hj=>zF (HR j hj),Kh (fun _=>⟨sa,sc,rfl,h2.base (Nat.zero_le _)⟩),Kh (fun h=>let ⟨g,e,ho⟩:=H7.out (zG jd h);⟨g,e,zZ ho h5⟩),(hs7A H8 h1),(hs7P H9),Kh (fun h h9=>zD (B1.out (zG jd h) (zK h9)) h5),(hs7A B2 h1),zE HG h5⟩
  case fa3=>rw[a9];simp only[yK,List.foldl_cons,List.foldl_nil,Act.put,sPa,sPb,sPc]
 case s4 =>
  exact fun l a w h h1=>absurd (qGV h 4 yq) (by rw[h1];simp)
 case s5 =>
  exact fun l a w h h1=>absurd (qGV h 5 yq) (by rw[h1];simp)
 case s6 =>
  exact fun l a w h h1=>absurd (qGV h 6 yq) (by rw[h1];simp)
 case s7 =>
  intro l a w h h1 h0 K hK;obtain⟨x34,x38,x39,x10,o,ha,HR,H3,H7,H8,H9,B1,B2,HG⟩:=h;subst ha;rw[a9];simp only[yK,List.foldl_cons,List.foldl_nil,Act.put,sPa,sPb,sPc];go_simp;have h3:=qNG a6.out HG.size l6;refine hK.out _ _ ?_;refine⟨x34,(.slice (some ⟨w.heap.size,0,none⟩) m m),x39,x10,o,?fa7,fun j hj=>zF (HR j hj),Kh (fun h=>let ⟨sa,sc,e,ho⟩:=H3.out (zG jd h);⟨sa,sc,e,ho.grow (Ga w (.cells (madeCells #[.bool false] m) 4) none)⟩),Kh (fun _=>⟨w.heap.size,rfl,h3⟩),(hs7B H8 h1),(hs7P H9),Kh (fun h h9=>zD (B1.out (zG jd h) (zK h9)) (Ga w (.cells (madeCells #[.bool false] m) 4) none)),(hs7B B2 h1),zE HG (Ga w (.cells (madeCells #[.bool false] m) 4) none)⟩
  case fa7=>rw[a9];simp only[yK,List.foldl_cons,List.foldl_nil,Act.put,sPa,sPb,sPc]
 case s8 =>
  intro l a w h h1 h0 K hK;obtain⟨x34,x38,x39,x10,o,ha,HR,H3,H7,H8,H9,B1,B2,HG⟩:=h;have DH3:=H3.out (zO (h0 ⟨3,.data⟩ yq rfl));have DH7:=H7.out (zO (h0 ⟨7,.data⟩ yq rfl));obtain⟨sa,sc,rfl,h2⟩:=DH3;obtain⟨g7,rfl,h3⟩:=DH7;subst ha;rw[a9];simp only[yK,List.foldl_cons,List.foldl_nil,Act.put,sPa,sPb,sPc];go_simp;refine hK.out _ _ ?_;refine⟨(.slice sa m sc),(.slice (some ⟨g7,0,none⟩) m m),(.agg #[.int .i64 k,.slice sa m sc,.slice none 0 0,.slice none 0 0,.slice none 0 0,.slice (some ⟨g7,0,none⟩) m m]),x10,o,?fa8,fun j hj=>zF (HR j hj),Kh (fun _=>⟨sa,sc,rfl,h2⟩),Kh (fun _=>⟨g7,rfl,h3⟩),Kh (fun _=>⟨zF (zO (h0 ⟨3,.data⟩ yq rfl)),zF (zO (h0 ⟨7,.data⟩ yq rfl)),rfl⟩),(hs7P H9),Kh (fun h h9=>B1.out (zG jd h) (zK h9)),Kh (fun h=>absurd (B2.out (zG jd h)).2.2.1 (by rw[h1];simp)),HG⟩
  case fa8=>rw[a9];simp only[yK,List.foldl_cons,List.foldl_nil,Act.put,sPa,sPb,sPc]
 case s9 =>
  intro l a w h h1 h0 K hK;obtain⟨x34,x38,x39,x10,o,ha,HR,H3,H7,H8,H9,B1,B2,HG⟩:=h;subst ha;rw[a9];simp only[yK,List.foldl_cons,List.foldl_nil,Act.put,sPa,sPb,sPc];go_simp;refine hK.out _ _ ?_;refine⟨x34,x38,x39,(.pointer (some ⟨w.heap.size,0,none⟩)),w.heap.size,?fa9,fun j hj=>zF (HR j hj),Kh (fun h=>let ⟨sa,sc,e,ho⟩:=H3.out (zG jd h);⟨sa,sc,e,ho.grow (Ga w (.cells #[.int .i64 0,.slice none 0 0,.slice none 0 0,.slice none 0 0,.slice none 0 0,.slice none 0 0] 39) none)⟩),Kh (fun h=>let ⟨g,e,ho⟩:=H7.out (zG jd h);⟨g,e,zZ ho (Ga w (.cells #[.int .i64 0,.slice none 0 0,.slice none 0 0,.slice none 0 0,.slice none 0 0,.slice none 0 0] 39) none)⟩),(hs7R H8),Kh (fun _=>⟨rfl,HG.size⟩),Kh (fun _ _=>heap_alloc_new w _),Kh (fun h=>absurd (B2.out (zG jd h)).2.2.2.1 (by rw[h1];simp)),zE HG (Ga w (.cells #[.int .i64 0,.slice none 0 0,.slice none 0 0,.slice none 0 0,.slice none 0 0,.slice none 0 0] 39) none)⟩
  case fa9=>rw[a9];simp only[yK,List.foldl_cons,List.foldl_nil,Act.put,sPa,sPb,sPc]
 intro l a w h h1 h0 K hK;obtain⟨x34,x38,x39,x10,o,ha,HR,H3,H7,H8,H9,B1,B2,HG⟩:=h;have DH9:=H9.out (zO (h0 ⟨9,.data⟩ yq rfl));have DB1:=B1.out (zO (h0 ⟨9,.data⟩ yq rfl));have DH8:=H8.out (zO (h0 ⟨8,.data⟩ yq rfl));have DH3:=H3.out (zO (h0 ⟨3,.chain⟩ yq rfl));have DH7:=H7.out (zO (h0 ⟨7,.phase⟩ yq rfl));obtain⟨rfl,ho⟩:=DH9;obtain⟨h7,h6,rfl⟩:=DH8;obtain⟨sa,sc,rfl,h2⟩:=H3.out h7;have H1:=zO (h0 ⟨8,.data⟩ yq rfl);have H0:=zO (h0 ⟨9,.data⟩ yq rfl);obtain⟨g7,rfl,h3⟩:=H7.out h6;have hb:=DB1 h1;subst ha;rw[a9];simp only[yK,List.foldl_cons,List.foldl_nil,Act.put,sPa,sPb,sPc];obtain⟨k0,k1,k2,k3,k4,k5⟩:=zU hb;have f0:=zB hb 0;have f1:=zB hb 1;have f2:=zB hb 2;have f3:=zB hb 3;have f4:=zB hb 4;have f5:=zB hb 5;go_simp;obtain⟨h8,h4⟩:=uT hb (.int .i64 k) (.slice sa m sc) (.slice none 0 0) (.slice none 0 0) (.slice none 0 0) (.slice (some ⟨g7,0,none⟩) m m);refine hK.out _ _ ?_;refine⟨(.slice sa m sc),(.slice (some ⟨g7,0,none⟩) m m),(.agg #[.int .i64 k,.slice sa m sc,.slice none 0 0,.slice none 0 0,.slice none 0 0,.slice (some ⟨g7,0,none⟩) m m]),(.pointer (some ⟨o,0,none⟩)),o,?fa10,fun j hj=>zF (HR j hj),Kh (fun _=>⟨sa,sc,rfl,h2.other h4 hb jd jd⟩),Kh (fun _=>⟨g7,rfl,h3.kept h4 (.inr (zR h3 hb jd))⟩),Kh (fun _=>⟨zF h7,zF h6,rfl⟩),Kh (fun _=>⟨rfl,ho⟩),Kh (fun _ h9=>yF h9),Kh (fun _=>⟨zF h7,zF h6,zF H1,zF H0,h8⟩),yM HG h4 (by show _<=o;omega)⟩
 case fa10=>rw[a9];simp only[yK,List.foldl_cons,List.foldl_nil,Act.put,sPa,sPb,sPc]
structure SynV where
 k:Nat
 tab:List (List Nat)
 words:List (List Nat)
 images:List Nat
 accept:List Bool
 plus:List Bool
def nV (B:Nat)(w:World)(v:Value)(ts:List (List Nat)):Prop:=∃hs,RowT B 22 w v hs/\tN B 3 nats w hs ts
theorem nV.tmat {B:Nat}{w:World}(h:nV B w v ts):TMat B w v ts:=by
 obtain⟨hs,h1,h2⟩:=h;exact⟨hs,h1.row,h2⟩
theorem nV.kept {B:Nat}{w w':World}(h:nV B w v ts)(hg:w.grownBy w' row)(h1:∀k,row=some k->B<=k\/yS w 22 k)(h2:∀k,row=some k->B<=k\/yS w 3 k):nV B w' v ts:=by
 obtain⟨hs,h3,h4⟩:=h;exact⟨hs,h3.kept hg h1,h4.kept hg h2⟩
theorem nV.mono {B:Nat}{w:World}(h:nV B w v ts)(hB:B<=B'):nV B' w v ts:=by
 obtain⟨hs,h3,h4⟩:=h;exact⟨hs,h3.mono hB,h4.mono hB⟩
theorem TX.tmatT {X:Nat->Prop}{w:World}(h:TX X w v ts):nV w.heap.size w v ts:=by
 obtain⟨hs,h1,h2⟩:=h;exact⟨hs,h1.1,h2.rowsT⟩
def iF (B:Nat)(w:World)(v:Value)(S:SynV):Prop:=∃vT vW vI vA vP,v=.agg #[.int .i64 S.k,vT,vW,vI,vA,vP]/\nV B w vT S.tab/\RowT B 9 w vW (uV S.words)/\RowT B 3 w vI (nats S.images)/\RowT B 4 w vA (bls S.accept)/\RowT B 4 w vP (bls S.plus)
def qPG (e:TypeId):Prop:=22≠e/\3≠e/\9≠e/\4≠e
theorem iF.kept {B:Nat}{w w':World}{S:SynV}(h:iF B w v S)(hg:w.grownBy w' row)(hr:∀k,row=some k->B<=k\/∃c e m,w.heap[k]?=some (.cells c e m)/\qPG e):iF B w' v S:=by
 obtain⟨vT,vW,vI,vA,vP,rfl,h1,h2,h3,h4,h5⟩:=h
 have t:∀e',(∀e,qPG e->e'≠e)->∀k,row=some k->B<=k\/yS w e' k:=fun e' he k hk=>by
  rcases hr k hk with h|⟨c,e,m,hb,hn⟩
  ·exact .inl h
  exact .inr ⟨c,e,m,hb,fun e1=>he e hn e1.symm⟩
 exact⟨vT,vW,vI,vA,vP,rfl,h1.kept hg (t _ (fun e h=>h.1)) (t _ (fun e h=>h.2.1)),h2.kept hg (t _ (fun e h=>h.2.2.1)),h3.kept hg (t _ (fun e h=>h.2.1)),h4.kept hg (t _ (fun e h=>h.2.2.2)),h5.kept hg (t _ (fun e h=>h.2.2.2))⟩
theorem iF.mono {B:Nat}{w:World}{S:SynV}(h:iF B w v S)(hB:B<=B'):iF B' w v S:=by
 obtain⟨vT,vW,vI,vA,vP,rfl,h1,h2,h3,h4,h5⟩:=h;exact⟨vT,vW,vI,vA,vP,rfl,h1.mono hB,h2.mono hB,h3.mono hB,h4.mono hB,h5.mono hB⟩
def accE (fin:List Bool)(st:Nat)(el:List (List Nat)):List Bool:=el.map fun f=>fin.getD (f.getD st 0) false
def imgE (gs el:List (List Nat)):List Nat:=gs.map fun g=>el.idxOf g
def vX (pr la:List Int)(m:Nat):List (List Nat):=(List.range m).map (vZ pr la)
def lS (m:Nat)(l:List Nat):List Bool:=l.foldl (fun ps x=>ps.set x true) (List.replicate m false)
def SynE (gs:List (List Nat))(n st:Nat)(fin:List Bool)(S:SynV):Prop:=∃(el:List (List Nat)) (pr la:List Int) (ri:List (List Nat)) (mm:List Nat),FinE gs n el pr la ri el.length/\el.length<=400/\S.k=gs.length/\S.tab=tabE pr la ri el.length/\S.words=vX pr la el.length/\S.images=imgE gs el/\S.accept=accE fin st el /\
 GenI (tabI S.tab) S.images mm/\pY (tabI S.tab) mm/\S.plus=lS el.length (mH (metL el.length mm))
def OfOk (gs:List (List Nat))(n st:Nat)(fin:List Bool)(w:World)(e:Ending)(w':World):Prop :=
 (e=.returned (.tuple #[.agg #[.int .i64 0,.slice none 0 0,.slice none 0 0,.slice none 0 0,.slice none 0 0,.slice none 0 0],.int .i64 3])/\(Big n/\qCJ gs n)/\w.grownBy w' none) \/
 ∃(S:SynV) (v:Value),e=.returned (.tuple #[v,.int .i64 0])/\SynE gs n st fin S/\iF w'.heap.size w' v S/\w.grownBy w' none
theorem oK (pr la:List Int)(m:Nat):(vX pr la m).length=m:=by simp[vX]
theorem qCO {pr la:List Int}{m:Nat}(hq:q<m):uV ((vX pr la m).take q)++[.string (strOfNums (lets (vZ pr la q)))]=uV ((vX pr la m).take (q+1)):=by
 rw[List.take_succ_eq_append_getElem (by rw[oK];exact hq)];simp[uV,vX]
theorem qLU {fin:List Bool}{st:Nat}(hq:q<el.length):bls ((accE fin st el).take q)++[.bool (fin.getD ((el.getD q []).getD st 0) false)]=bls ((accE fin st el).take (q+1)):=by
 rw[List.take_succ_eq_append_getElem (by simpa [accE] using hq),zQ hq];simp[bls,accE]
theorem qKZ {gs:List (List Nat)}(hq:q<gs.length):nats ((imgE gs el).take q)++[.int .i64 ((el.idxOf (gs.getD q []):Nat):Int)]=nats ((imgE gs el).take (q+1)):=by
 rw[List.take_succ_eq_append_getElem (by simpa [imgE] using hq),zQ hq];simp[nats,imgE]
theorem TX.of_own {w:World}{o P g n:Nat}{e e':TypeId}{c c' c2:Array Value}{m m' m2:Nat×Nat}(h:OwnT 0 w v n ts)(hb:w.heap[o]?=some (.cells c e m))(hP:w.heap[P]?=some (.cells c' e m'))(a9:w.heap[g]?=some (.cells c2 e' m2))(h1:e≠22)(h2:e≠3)(h3:e'≠22)(h4:e'≠3):TX (fun j=>j<w.heap.size/\j≠o/\j≠P/\j≠g) w v ts:=by
 obtain⟨h8,h0,h7,h9⟩:=h;refine⟨h8,⟨RowT.of_owns h0,fun j hj=>⟨(h0.lt j hj).2,fun e1=>zR h0 hb (Ne.symm h1) (e1 ▸ hj),fun e1=>zR h0 hP (Ne.symm h1) (e1 ▸ hj),fun e1=>zR h0 a9 (Ne.symm h3) (e1 ▸ hj)⟩⟩,h7.1,fun i h5 h6=>⟨h7.2 i h5 h6,fun j hj=>?_⟩⟩;rcases h7.2 i h5 h6 with ⟨e,_⟩|⟨b,off,cap,cur,m,e,e2,e3,e4,e5,e6⟩
 ·rw[e]at hj;simp[Value.ownBlock]at hj
 rw[e]at hj;have hj:b=j:=by simpa [Value.ownBlock] using hj
 subst hj;refine⟨zS e5,fun e7=>?_,fun e7=>?_,fun e7=>?_⟩
 ·subst e7;rw[hb]at e5;simp at e5;exact h2 e5.2.1
 ·subst e7;rw[hP]at e5;simp at e5;exact h2 e5.2.1
 subst e7;rw[a9]at e5;simp at e5;exact h4 e5.2.1
theorem qOE {f:List Nat}(h:f∈ts):mM ts f=((ts.idxOf f:Nat):Int):=by unfold mM;rw[if_pos h]
theorem qGP (m:Nat)(l:List Nat)(x:Nat):lS m (l++[x])=(lS m l).set x true:=by simp[lS,List.foldl_append]
theorem iZ (m:Nat)(l:List Nat):(lS m l).length=m:=by
 suffices h:∀(l:List Nat) (ps:List Bool),(l.foldl (fun ps x=>ps.set x true) ps).length=ps.length by
  rw[lS,h,List.length_replicate]
 intro l
 induction l with
 | nil=>intro ps;rfl
 | cons x l ih=>intro ps;rw[List.foldl_cons,ih,List.length_set]
theorem qRL (h:i<(nats l).length):(nats l)[i]=.int .i64 ((l.getD i 0:Nat):Int):=by
 rw[zQ (by simpa [nats] using h)];simp[nats]
theorem qTA {l:List Bool}(h:i<(bls l).length):(bls l)[i]=.bool (l.getD i false):=by
 rw[zQ (by simpa [bls] using h)];simp[bls]
theorem qNT (h:x∈mH bs):x<bs.length:=by
 have:=List.mem_filter.1 h;exact List.mem_range.1 this.1
theorem kL (gs el:List (List Nat)):(imgE gs el).length=gs.length:=by simp[imgE]
theorem kV (fin:List Bool)(st:Nat)(el:List (List Nat)):(accE fin st el).length=el.length:=by simp[accE]
theorem qEF (l:List Bool)(i:Nat)(c:Bool):(bls l).set i (.bool c)=bls (l.set i c):=by simp[bls,List.map_set]
theorem qNH (B C:Nat)(w:World)(v0 v2:Value)(gs:List (List Nat))(n st:Nat)(fin:List Bool)(hB:B<=w.heap.size)(hC:C<=w.heap.size)(h:TMat B w v0 gs)(hf:Row C w v2 (bls fin))(a7:fin.length=n)(a6:st<n)(a8:∀g∈gs,IsT n g)(a4:n<=32)(a5:1<=gs.length)(a9:gs.length<=6):Calls Tryz.prog 23 #[v0,.int .i64 (st:Int),v2] w (OfOk gs n st fin w):=by
 obtain⟨gb,gf,gc,rfl,z9,s3,A0,z7,f9⟩:=h.head yo;obtain⟨fb,fo,fc,rfl,A1,k5,k4,m6⟩:=hf.some_ (by rw[yB];omega);rw[yB,a7]at k5⊢;obtain⟨w1,g9⟩:=Nm (w.alloc (.cells #[.int .i64 0,.slice none 0 0,.slice none 0 0,.slice none 0 0,.slice none 0 0,.slice none 0 0] 39));have i0:w.grownBy w1 none:=by rw[g9];exact Ga w _ none
 have i2:=heap_alloc_new w (.cells #[.int .i64 0,.slice none 0 0,.slice none 0 0,.slice none 0 0,.slice none 0 0,.slice none 0 0] 39);rw[<-g9]at i2;have y6:=Kh (qEE B w1 _ gs n (Nat.le_trans hB i0.size) (h.kept i0 yq) a8 yo a4 a5 a9);obtain⟨P,hP⟩:=Nm w.heap.size;obtain⟨i7,t8,p8,i8,x8,x3⟩:=Kf hP g9 i0 a8 f9 m6;have y1:=Kh a7;have A5:=Kh h;rw[<-hP]at i2;have p9:=Kh i2;have s2:gc<=9223372036854775807:=jl s3
 have s7:fc<=9223372036854775807:=jl k4
 clear g9 i0 i2 a8 h hf f9 m6 a7;go_enter Tryz.func23,Tryz.ntmps23;go_upto_region 1 with fail;rw[<-t8.out,<-i7.out];clear hP;go_wp2_with fail;refine y6.out.mono ?_;rintro e w2 (⟨rfl,g4,h5⟩|⟨el,pr,la,ri,m,gN,uN,gA,uA,gC,uC,vP,vL,vR,sE,cE,rfl,e0,hl,z0,hE,i3,i4,hR,h5⟩)
 ·have m1:=Kh g4
  clear g4;have e3:=zD p9.out h5;obtain⟨w3,b9⟩:=Nm (w2.alloc (.cells #[.int .i64 0,.bool false,.slice none 0 0,.slice none 0 0,.slice none 0 0,.slice none 0 0,.slice none 0 0,.slice none 0 0,.int .i64 0] 75));have b2:w2.grownBy w3 none:=by rw[b9];exact Ga w2 _ none
  have h0:=zD e3 b2;have j1:=Kh h0;have j0:=Kh (zE (zE p8.out h5) b2);have l7:=Kh b9;obtain⟨p0,p1,p2,p3,p4,p5⟩:=zU h0;have f0:=zB h0 0;have f1:=zB h0 1;have f2:=zB h0 2;have f3:=zB h0 3;have f4:=zB h0 4;have f5:=zB h0 5;clear h5 e3 b9 b2 h0;go_upto_region 2 with fail;rw[<-l7.out];go_wp2;refine bodyPost_ret (v:=.tuple #[.agg #[.int .i64 0,.slice none 0 0,.slice none 0 0,.slice none 0 0,.slice none 0 0,.slice none 0 0],.int .i64 3]) (by simp[results,Tryz.results23,go_sem,p0,p1,p2,p3,p4,p5]) rfl ?_;obtain⟨m4,H4⟩:=uT j1.out (.int .i64 0) (.slice none 0 0) (.slice none 0 0) (.slice none 0 0) (.slice none 0 0) (.slice none 0 0);exact .inl ⟨rfl,m1.out,yM j0.out H4 (by show _<=P;have:=i7.out;omega)⟩
 obtain⟨pA,pC,rfl⟩:=i3.shape;obtain⟨lA,lC,rfl⟩:=i4.shape;obtain⟨rA,rC,rfl⟩:=hR.shape;rw[zL,e0.en.l2,hl]at i3⊢;rw[zL,e0.en.l3,hl]at i4⊢;rw[e0.rl]at hR⊢;obtain⟨eb,eo,ec,ee,t1,t0,t2,s8,g3⟩:=hE.head (by have:=e0.en.pos;omega);rw[hl]at ee t1;simp only[Value.slice.injEq]at ee;obtain⟨rfl,_,rfl⟩:=ee;have s9:cE<=9223372036854775807:=jl t0
 have e3:=zD p9.out h5;obtain⟨w3,b9⟩:=Nm (w2.alloc (.cells #[.int .i64 n,.bool true,.slice gA gN gC,.slice (some ⟨eb,eo,none⟩) m cE,.slice pA m pC,.slice lA m lC,.slice rA m rC,.slice uA uN uC,.int .i64 m] 75));have b2:w2.grownBy w3 none:=by rw[b9];exact Ga w2 _ none
 have g6:=heap_alloc_new w2 (.cells #[.int .i64 n,.bool true,.slice gA gN gC,.slice (some ⟨eb,eo,none⟩) m cE,.slice pA m pC,.slice lA m lC,.slice rA m rC,.slice uA uN uC,.int .i64 m] 75);rw[<-b9]at g6;obtain⟨b8,k6⟩:=Nm w2.heap.size;rw[<-k6]at g6;have h0:=zD e3 b2;have A3:P<b8:=by have:=zS e3;omega
 have j1:=Kh h0;have j0:=Kh (zE (zE p8.out h5) b2);obtain⟨l7,y8,y4,m0,b1,HL⟩:=Kf b9 g6 k6 b2 e0 hl;obtain⟨HE,y3,o8,p7,HR⟩:=Ke hE g3 i3 i4 hR;have z5:1<=m:=by rw[<-hl];exact e0.en.pos
 obtain⟨p0,p1,p2,p3,p4,p5⟩:=zU h0;have f0:=zB h0 0;have f1:=zB h0 1;have f2:=zB h0 2;have f3:=zB h0 3;have f4:=zB h0 4;have f5:=zB h0 5;obtain⟨q0,q1,q2,q3,q4,q5,q6,q7,q8⟩:=yD g6;clear h5 e3 b9 b2 h0 g6 e0 hl hE i3 i4 hR k6 g3 t2 s8 q0 q1 q2 q4 q5 q6 q7 q8;go_upto_region 2 with fail;rw[<-l7.out,<-y4.out];by_cases hm4:400<m
 ·have k0:(400:Int)<m:=yo
  go_wp2;refine bodyPost_ret (v:=.tuple #[.agg #[.int .i64 0,.slice none 0 0,.slice none 0 0,.slice none 0 0,.slice none 0 0,.slice none 0 0],.int .i64 3]) (by simp[results,Tryz.results23,go_sem,p0,p1,p2,p3,p4,p5]) rfl ?_;obtain⟨m4,H4⟩:=uT j1.out (.int .i64 0) (.slice none 0 0) (.slice none 0 0) (.slice none 0 0) (.slice none 0 0) (.slice none 0 0);exact .inl ⟨rfl,⟨⟨el,b1.out.en.nodup,by rw[HL.out];exact hm4,b1.out.en.it⟩,(show FinE gs n el pr la ri el.length by rw[HL.out];exact b1.out).nosyn (by rw[HL.out];exact hm4) yo a5⟩,yM j0.out H4 (by show _<=P;have:=i7.out;omega)⟩
 have k0:¬(400:Int)<m:=yo
 obtain⟨T,hT⟩:=Nm (tabE pr la ri m);obtain⟨w5,j6⟩:=Nm w3.drew;have g2:w3.grownBy w5 none:=(by rw[j6];exact zY w3 none);have t7:=Kh j6;have e1:=zD y8.out g2;have b4:=Kh e1;have b0:=Kh (zE m0.out g2);have m2:=Kh (zD j1.out g2);have i9:=Kh (zE j0.out g2);have k9:T.length=m:=by rw[hT];exact wW pr la ri m
 have j5:qA pr la m gs.length:=by have:=b1.out.en.words;rw[HL.out]at this;exact this
 have m5:qEK ri m gs.length:=by
  have:=b1.out;rw[<-HL.out]at this⊢;exact this.right
 have j8:pr.length=m:=by rw[b1.out.en.l2,HL.out]
 have k1:la.length=m:=by rw[b1.out.en.l3,HL.out]
 have t9:Hid (∀W:World,w5.grownBy W none->Calls Tryz.prog 40 #[.agg #[.int .i64 n,.bool true,.slice gA gN gC,.slice (some ⟨eb,eo,none⟩) m cE,.slice pA m pC,.slice lA m lC,.slice rA m rC,.slice uA uN uC,.int .i64 m]] W (eW W T)):=Kh (fun W hg=>by
  have h5:=zE b0.out hg;rw[hT]
  exact qCV W.heap.size W.heap.size W.heap.size W _ _ _ _ _ _ cE _ _ _ pr la ri m gs.length (Nat.le_refl _) (Nat.le_refl _) (Nat.le_refl _) ((o8.out.kept h5 yq).mono h5.size) ((p7.out.kept h5 yq).mono h5.size) ((HR.out.kept h5 yq).mono h5.size) j8 k1 j5 m5 a9 yo)
 obtain⟨t6,l8,d1,x5,l9⟩:=Ke j5 hT k9 j8 k1;have n0:=qKE m yo;have f6:=Kh (qKT m);have r7:m<=maxLen:=jm
 have C:=Kh (yD e1);clear g2 j6 e1 j5 m5 j8 k1 hT;go_upto_region 4 with fail;refine wp_region_noPanic ?_;refine yI (G:=xM 10 (fun W=>W.cell? ⟨b8,0,none⟩=some (.int .i64 n)/\W.cell? ⟨b8,1,none⟩=some (.bool true)/\W.cell? ⟨b8,2,none⟩=some (.slice gA gN gC)/\W.cell? ⟨b8,3,none⟩=some (.slice (some ⟨eb,eo,none⟩) m cE)/\W.cell? ⟨b8,4,none⟩=some (.slice pA m pC)/\W.cell? ⟨b8,5,none⟩=some (.slice lA m lC)/\W.cell? ⟨b8,6,none⟩=some (.slice rA m rC)/\W.cell? ⟨b8,7,none⟩=some (.slice uA uN uC)/\W.cell? ⟨b8,8,none⟩=some (.int .i64 m)) (fun _=>True)) yk ?_;rw[<-t7.out];refine zP 0 ?_;refine zP 1 ?_;refine zP 2 ?_;refine zP 4 ?_;refine zP 5 ?_;refine zP 6 ?_;refine uM (fun Wp hWp a0 ha0=>?_);subst hWp
 try simp only[Act.put,sPd,sPe,sPf,sPa,sPb,sPc]at ha0
 have y9:=Kh ha0;refine uL (I:=of4I gs.length m b8 T (.slice (some ⟨gb,gf,none⟩) gs.length gc) (.int .i64 n) (.bool true) (.slice gA gN gC) (.slice (some ⟨eb,eo,none⟩) m cE) (.slice pA m pC) (.slice lA m lC) (.slice rA m rC) (.slice uA uN uC) (.int .i64 m) w5 a0) (fun l a w h=>qTY b4.out h) (qJU ha0 t9.out k9 n0 f6 r7) yk ?hend (by decide +kernel) ?hinit
 case hinit =>
  clear ha0;refine⟨a0.tmps.getD 34 undef,a0.tmps.getD 38 undef,a0.tmps.getD 39 undef,a0.tmps.getD 10 undef,0,(uF yq).symm,by decide +kernel,hs7C,hs7C,hs7C,hs7C,hs7C,hs7C,zX _ _⟩
 clear ha0;intro l a w6 h a1;obtain⟨x34,x38,x39,x10,o,ha,HR,H3,H7,H8,H9,B1,B2,HG⟩:=h;obtain⟨sT,cT,rfl,c6⟩:=H3.out (a1 3 jd);obtain⟨gp,rfl,i5⟩:=H7.out (a1 7 jd);obtain⟨_,_,rfl⟩:=H8.out (a1 8 jd);obtain⟨rfl,j9⟩:=H9.out (a1 9 jd);obtain⟨_,_,_,_,k8⟩:=B2.out (a1 10 jd);clear H3 H7 H8 H9 B1 B2 HR;subst ha;rw[y9.out];simp only[yK,List.foldl_cons,List.foldl_nil,Act.put,sPa,sPb,sPc];refine NoPanic.normal ?_;obtain⟨Q,hQ⟩:=Nm w5.heap.size;have l4:=zS m2.out;have g5:=zD m2.out HG;obtain⟨kp,d8,_,_,t3⟩:=yV i5 yo;have d8:gp=kp:=by simpa using d8
 subst d8;obtain⟨cp,_,f8,_⟩:=t3;have l0:=TX.of_own c6 k8 g5 f8 jd jd jd jd;obtain⟨X,hX⟩:∃X:Nat->Prop,X=fun j=>j<w6.heap.size/\j≠o/\j≠P/\j≠gp:=⟨_,rfl⟩;rw[<-hX]at l0;rw[<-hQ]at i5 l4 j9;have n6:¬X P:=fun h=>by rw[hX]at h;exact h.2.2.1 rfl
 have o0:BoxS Q X o 39 w5 w6 [⟨Q,4,.slice (some ⟨gp,0,none⟩) m m,m,bls (List.replicate m false),1⟩] #[.int .i64 gs.length,.slice sT m cT,.slice none 0 0,.slice none 0 0,.slice none 0 0,.slice (some ⟨gp,0,none⟩) m m] w6 :=
  ⟨⟨fun r hr=>by rw[List.mem_singleton]at hr;subst hr;exact i5,yq,fun r hr k hk hx=>by
    rw[List.mem_singleton]at hr;subst hr;have hk:gp=k:=by simpa [Value.ownBlock] using hk
    subst hk;rw[hX]at hx;exact hx.2.2.2 rfl,fun k hx=>by rw[hX]at hx;exact hx.1⟩,fun r hr=>by rw[List.mem_singleton]at hr;subst hr;exact⟨rfl,yq⟩,k8,fun h=>by rw[hX]at h;exact h.2.1 rfl,yo,yo,by rw[hQ];exact HG.size,HG,wG.refl _ _,Nat.le_refl _⟩
 have n9:BoxS Q X o 39 w5 w6 [⟨Q,4,.slice (some ⟨gp,0,none⟩) m m,m,bls (List.replicate m false),1⟩,⟨Q,9,.slice none 0 0,0,[],1⟩,⟨Q,4,.slice none 0 0,0,[],1⟩,⟨Q,3,.slice none 0 0,0,[],1⟩] #[.int .i64 gs.length,.slice sT m cT,.slice none 0 0,.slice none 0 0,.slice none 0 0,.slice (some ⟨gp,0,none⟩) m m] w6:=((o0.nil (e:=9) (sz:=1) jd).nil (e:=4) (sz:=1) jd).nil (e:=3) (sz:=1) jd;obtain⟨o7,o4,t5,HQ,o9,p6⟩:=Kf n9 l0 n6 hQ l4 j9;have A6:=Kh HG;have r6:=zN (yD b4.out).2.2.2.1 HG;clear o0 n9 l0 hX n6 i5 l4 g5 c6 k8 f8 hQ j9 HG n0 f6 k9;go_wp2
 go_loopg [11,12,43] m (fun gh v11 v12 i wr=>∃(q:Nat) (sW:Option Addr) (cW:Nat) (sA:Option Addr) (cA:Nat),gh+q=m/\i=.int .i64 q/\BoxS Q X o 39 w5 w6 [⟨Q,4,.slice (some ⟨gp,0,none⟩) m m,m,bls (List.replicate m false),1⟩,⟨Q,9,.slice sW q cW,q,uV ((vX pr la m).take q),1⟩,⟨Q,4,.slice sA q cA,q,bls ((accE fin st el).take q),1⟩,⟨Q,3,.slice none 0 0,0,[],1⟩] #[.int .i64 gs.length,.slice sT m cT,.slice sW q cW,.slice none 0 0,.slice sA q cA,.slice (some ⟨gp,0,none⟩) m m] wr)
 case atStart=>exact⟨0,none,0,none,0,yo,rfl,o7.out⟩
 obtain⟨q,sW,cW,sA,cA,c7,rfl,hS⟩:=hrel;have d4:=Kh c7;have HS:=Kh hS;have d2:=Kh hS.grown;clear c7 hS o7;by_cases hq:q<m
 ·have m7:(q:Int)<m:=yo
  obtain⟨xa,xc,j4,j2⟩:=y3.out q (by rw[HL.out];exact hq);have d6:IsT n (el.getD q []):=b1.out.en.it _ (wT (by rw[HL.out];exact hq));rw[d6.1]at j4 j2;have r1:=zN j4 (zE b0.out d2.out);obtain⟨xb,xo,xc',exa,r2,b3,e8,e7⟩:=j2.row.some_ (by rw[zV,d6.1];omega);rw[zV,d6.1]at exa;simp only[Value.slice.injEq]at exa;obtain⟨rfl,_,rfl⟩:=exa;obtain⟨y,hy⟩:=Nm ((el.getD q []).getD st 0);have q9:y<n:=by rw[hy];exact d6.get a6
  have m3:w2.cell? ⟨xb,xo+st,none⟩=some (.int .i64 (y:Int)):=by
   have:=e7.2 st (by rw[zV,d6.1];exact a6);rw[this,qRL,hy]
  obtain⟨bb,k7⟩:=Nm (fin.getD y false)
  have n5:w.cell? ⟨fb,fo+y,none⟩=some (.bool bb):=by
   have:=x3.out.2 y (by rw[yB,y1.out];exact q9);rw[this,qTA,k7]
  have j3:xc<=9223372036854775807:=by rw[zV]at b3;unfold maxLen at e8;omega
  have r0:n<=xc:=by rw[zV,d6.1]at b3;exact b3
  have l6:Hid (bls ((accE fin st el).take q)++[.bool bb]=bls ((accE fin st el).take (q+1))):=Kh (by
   rw[k7,hy];exact qLU (by rw[HL.out];exact hq))
  have t4:=Kh m3;have y7:=Kh n5
  have o3:Hid (∀W:World,w5.grownBy W none->Calls Tryz.prog 41 #[.agg #[.int .i64 n,.bool true,.slice gA gN gC,.slice (some ⟨eb,eo,none⟩) m cE,.slice pA m pC,.slice lA m lC,.slice rA m rC,.slice uA uN uC,.int .i64 m],.int .i64 (q:Int)] W fun e w'=>e=.returned (.string (strOfNums (lets (vZ pr la q))))/\W.grownBy w' none):=Kh (fun W hg=>by
   have h5:=zE b0.out hg
   exact mZ W.heap.size W.heap.size W _ _ _ _ _ _ _ _ _ pr la m gs.length q (Nat.le_refl _) (Nat.le_refl _) ((o8.out.kept h5 yq).mono h5.size) ((p7.out.kept h5 yq).mono h5.size) x5.out l9.out t6.out a9 yo hq)
  have H1:Hid (∀(W:World) (rs:List RowS),BoxS Q X o 39 w5 w6 rs #[.int .i64 gs.length,.slice sT m cT,.slice sW q cW,.slice none 0 0,.slice sA q cA,.slice (some ⟨gp,0,none⟩) m m] W->W.cell? ⟨o,2,none⟩=some (.slice sW q cW)/\W.cell? ⟨b8,0,none⟩=some (.int .i64 n)/\W.cell? ⟨b8,1,none⟩=some (.bool true)/\W.cell? ⟨b8,2,none⟩=some (.slice gA gN gC)/\W.cell? ⟨b8,3,none⟩=some (.slice (some ⟨eb,eo,none⟩) m cE)/\W.cell? ⟨b8,4,none⟩=some (.slice pA m pC)/\W.cell? ⟨b8,5,none⟩=some (.slice lA m lC)/\W.cell? ⟨b8,6,none⟩=some (.slice rA m rC)/\W.cell? ⟨b8,7,none⟩=some (.slice uA uN uC)/\W.cell? ⟨b8,8,none⟩=some (.int .i64 m)):=Kh (fun W rs hS=>⟨(zU hS.box).2.2.1,yD (zD b4.out hS.grown)⟩);clear j4 j2 d6 hy m3 k7 n5 e7 b3 r2 e8;obtain⟨w7,H2⟩:=Nm wr.drew;have H6:wr.grownBy w7 none:=(by rw[H2];exact zY wr none);have e5:=Kh H2;have d5:=Kh H6;clear H2 H6;go_upto_region 8 with fail;refine wp_region_noPanic ?_;refine yI (G:=xM 8 (fun _=>True) (fun W=>W.cell? ⟨o,2,none⟩=some (.slice sW q cW)/\W.cell? ⟨b8,0,none⟩=some (.int .i64 n)/\W.cell? ⟨b8,1,none⟩=some (.bool true)/\W.cell? ⟨b8,2,none⟩=some (.slice gA gN gC)/\W.cell? ⟨b8,3,none⟩=some (.slice (some ⟨eb,eo,none⟩) m cE)/\W.cell? ⟨b8,4,none⟩=some (.slice pA m pC)/\W.cell? ⟨b8,5,none⟩=some (.slice lA m lC)/\W.cell? ⟨b8,6,none⟩=some (.slice rA m rC)/\W.cell? ⟨b8,7,none⟩=some (.slice uA uN uC)/\W.cell? ⟨b8,8,none⟩=some (.int .i64 m))) yk ?_;rw[<-e5.out];have a3:=Kh (HS.out.grow d5.out);have C:Hid (w7.cell? ⟨o,2,none⟩=some (.slice sW q cW)/\w7.cell? ⟨b8,0,none⟩=some (.int .i64 n)/\w7.cell? ⟨b8,1,none⟩=some (.bool true)/\w7.cell? ⟨b8,2,none⟩=some (.slice gA gN gC)/\w7.cell? ⟨b8,3,none⟩=some (.slice (some ⟨eb,eo,none⟩) m cE)/\w7.cell? ⟨b8,4,none⟩=some (.slice pA m pC)/\w7.cell? ⟨b8,5,none⟩=some (.slice lA m lC)/\w7.cell? ⟨b8,6,none⟩=some (.slice rA m rC)/\w7.cell? ⟨b8,7,none⟩=some (.slice uA uN uC)/\w7.cell? ⟨b8,8,none⟩=some (.int .i64 m)):=Kh (H1.out w7 _ a3.out);refine zP 0 ?_;refine xD 1 ?_;refine xD 2 ?_;refine zP 3 ?_;refine jg 4 fun K hK=>?_;go_simp
  go_at_call 41
  refine(o3.out w7 (zE d2.out d5.out)).mono ?_;rintro e w8 ⟨rfl,g1⟩;have e2:=Kh (a3.out.grow g1);have C8:Hid (w8.cell? ⟨o,2,none⟩=some (.slice sW q cW)/\w8.cell? ⟨b8,0,none⟩=some (.int .i64 n)/\w8.cell? ⟨b8,1,none⟩=some (.bool true)/\w8.cell? ⟨b8,2,none⟩=some (.slice gA gN gC)/\w8.cell? ⟨b8,3,none⟩=some (.slice (some ⟨eb,eo,none⟩) m cE)/\w8.cell? ⟨b8,4,none⟩=some (.slice pA m pC)/\w8.cell? ⟨b8,5,none⟩=some (.slice lA m lC)/\w8.cell? ⟨b8,6,none⟩=some (.slice rA m rC)/\w8.cell? ⟨b8,7,none⟩=some (.slice uA uN uC)/\w8.cell? ⟨b8,8,none⟩=some (.int .i64 m)):=Kh (H1.out w8 _ e2.out);refine hK.out _ _ ⟨trivial,fun _=>C8.out⟩ ?_;clear hK K C a3 g1
  try simp only[Act.put,sPa,sPb,sPc]
  obtain⟨sw,j7⟩:=Nm (strOfNums (lets (vZ pr la q)));have i6:Hid (uV ((vX pr la m).take q)++[.string sw]=uV ((vX pr la m).take (q+1))):=Kh (by rw[j7];exact qCO hq);rw[<-j7];clear j7;refine jg 5 fun K hK=>?_;go_simp;have H0:=heap_alloc_new w8 (.cells #[.string sw] 9);have H5:=Ga w8 (.cells #[.string sw] 9) none;obtain⟨gR,c8⟩:=Nm w8.heap.size;obtain⟨w9,b7⟩:=Nm (w8.alloc (.cells #[.string sw] 9));rw[<-c8]at H0⊢;rw[<-b7]at H0 H5⊢;have a2:=Kh (e2.out.grow H5);have C9:Hid (w9.cell? ⟨o,2,none⟩=some (.slice sW q cW)/\w9.cell? ⟨b8,0,none⟩=some (.int .i64 n)/\w9.cell? ⟨b8,1,none⟩=some (.bool true)/\w9.cell? ⟨b8,2,none⟩=some (.slice gA gN gC)/\w9.cell? ⟨b8,3,none⟩=some (.slice (some ⟨eb,eo,none⟩) m cE)/\w9.cell? ⟨b8,4,none⟩=some (.slice pA m pC)/\w9.cell? ⟨b8,5,none⟩=some (.slice lA m lC)/\w9.cell? ⟨b8,6,none⟩=some (.slice rA m rC)/\w9.cell? ⟨b8,7,none⟩=some (.slice uA uN uC)/\w9.cell? ⟨b8,8,none⟩=some (.int .i64 m)):=Kh (H1.out w9 _ a2.out);refine hK.out _ _ ⟨trivial,fun _=>C9.out⟩ ?_;clear hK K C8 e2 c8 b7 H5
  try simp only[Act.put,sPa,sPb,sPc]
  obtain⟨d0,b5,h3⟩:=a2.out.push;have d3:=Kh h3;have h7:=bR H0;clear h3;refine jg 6 fun K hK=>?_;refine oC rfl (.tmp 49) (.tmp 53) 37 rfl rZ.toN 1 _ rfl ⟨_,_,_,_,_,d0,⟨Q,9,.slice sW q cW,q,uV ((vX pr la m).take q),1⟩,1,q+1,_,rfl,rfl,rfl,rfl,h7,?z1,rfl,?z2,?z3,?z4,?_⟩
  case z1=>intro v hv;simp only[List.mem_cons,List.not_mem_nil,or_false]at hv;subst hv;rfl
  case z2=>unfold maxLen;omega
  case z3=>show (q+1)*16<=140737488355328;omega
  case z4=>exact b5
  intro sU' cU' wM c9;have h8:=Kh (d3.out wM 1 ⟨Q,9,.slice sW q cW,q,uV ((vX pr la m).take q),1⟩ (.slice sU' (q+1) cU') (q+1) [.string sw] rfl c9);have CM:Hid (wM.cell? ⟨o,2,none⟩=some (.slice sW q cW)/\wM.cell? ⟨b8,0,none⟩=some (.int .i64 n)/\wM.cell? ⟨b8,1,none⟩=some (.bool true)/\wM.cell? ⟨b8,2,none⟩=some (.slice gA gN gC)/\wM.cell? ⟨b8,3,none⟩=some (.slice (some ⟨eb,eo,none⟩) m cE)/\wM.cell? ⟨b8,4,none⟩=some (.slice pA m pC)/\wM.cell? ⟨b8,5,none⟩=some (.slice lA m lC)/\wM.cell? ⟨b8,6,none⟩=some (.slice rA m rC)/\wM.cell? ⟨b8,7,none⟩=some (.slice uA uN uC)/\wM.cell? ⟨b8,8,none⟩=some (.int .i64 m)):=Kh (H1.out wM _ h8.out);refine hK.out _ _ ⟨trivial,fun _=>CM.out⟩ ?_;clear hK K C9 a2 d0 b5 d3 h7 H0 c9
  try simp only[Act.put,sPa,sPb,sPc]
  refine zP 7 ?_;refine jg 8 fun K hK=>?_;have q7:=zJ h8.out.box 2;simp only[sPd,sPe,sPf]at q7;have f7:=zB h8.out.box 2;go_simp;refine hK.out _ _ ⟨trivial,fun h=>by simp at h⟩ ?_;clear hK K q7 f7 CM
  try simp only[Act.put,sPa,sPb,sPc]
  refine uY yk ?_ _;refine NoPanic.normal ?_;obtain⟨wZ,b6⟩:=Nm (wM.setCell ⟨o,2,none⟩ (.slice sU' (q+1) cU'));have h4:=h8.out.set 2 (.slice sU' (q+1) cU');rw[<-b6]at h4⊢;simp only[sPa,sPb,sPc,i6.out]at h4;have e6:=Kh h4;clear h4 b6 h8;obtain⟨sW2,rfl⟩:=Nm (sU':Option Addr);obtain⟨cW2,rfl⟩:=Nm (cU':Nat);obtain⟨wr2,rfl⟩:=Nm (wZ:World);have o6:=e6;have x1:=Kh o6.out.grown;clear e6 H1 d2 HS d5 e5 o3 i6;have H1:Hid (∀(W:World) (rs:List RowS),BoxS Q X o 39 w5 w6 rs #[.int .i64 gs.length,.slice sT m cT,.slice sW2 (q+1) cW2,.slice none 0 0,.slice sA q cA,.slice (some ⟨gp,0,none⟩) m m] W->W.cell? ⟨o,4,none⟩=some (.slice sA q cA)/\W.cell? ⟨xb,xo+st,none⟩=some (.int .i64 (y:Int))/\W.cell? ⟨fb,fo+y,none⟩=some (.bool bb)):=Kh (fun W rs hS=>⟨(zU hS.box).2.2.2.2.1,zN t4.out (zE b0.out hS.grown),zN y7.out (zE i9.out hS.grown)⟩);obtain⟨w7,H2⟩:=Nm wr2.drew;have H6:wr2.grownBy w7 none:=(by rw[H2];exact zY wr2 none);have e5:=Kh H2;have d5:=Kh H6;clear H2 H6;go_upto_region 9 with fail;refine wp_region_noPanic ?_;refine yI (G:=xM 12 (fun _=>True) (fun W=>W.cell? ⟨o,4,none⟩=some (.slice sA q cA)/\W.cell? ⟨xb,xo+st,none⟩=some (.int .i64 (y:Int))/\W.cell? ⟨fb,fo+y,none⟩=some (.bool bb))) yk ?_;rw[<-e5.out];have a3:=Kh (o6.out.grow d5.out);have C:Hid (w7.cell? ⟨o,4,none⟩=some (.slice sA q cA)/\w7.cell? ⟨xb,xo+st,none⟩=some (.int .i64 (y:Int))/\w7.cell? ⟨fb,fo+y,none⟩=some (.bool bb)):=Kh (H1.out w7 _ a3.out);refine zP 0 ?_;refine xD 1 ?_;refine zP 2 ?_;refine zP 3 ?_;refine zP 4 ?_;refine zP 5 ?_;refine xD 6 ?_;refine zP 7 ?_;refine xD 8 ?_;refine jg 9 fun K hK=>?_;go_simp;have H0:=heap_alloc_new w7 (.cells #[.bool bb] 4);have H5:=Ga w7 (.cells #[.bool bb] 4) none;obtain⟨gR,c8⟩:=Nm w7.heap.size;obtain⟨w9,b7⟩:=Nm (w7.alloc (.cells #[.bool bb] 4));rw[<-c8]at H0⊢;rw[<-b7]at H0 H5⊢;have a2:=Kh (a3.out.grow H5);have C9:Hid (w9.cell? ⟨o,4,none⟩=some (.slice sA q cA)/\w9.cell? ⟨xb,xo+st,none⟩=some (.int .i64 (y:Int))/\w9.cell? ⟨fb,fo+y,none⟩=some (.bool bb)):=Kh (H1.out w9 _ a2.out);refine hK.out _ _ ⟨trivial,fun _=>C9.out⟩ ?_;clear hK K C a3 c8 b7 H5
  try simp only[Act.put,sPa,sPb,sPc]
  obtain⟨d0,b5,h3⟩:=a2.out.push;have d3:=Kh h3;have h7:=bR H0;clear h3;refine jg 10 fun K hK=>?_;refine oC rfl (.tmp 57) (.tmp 65) 26 rfl xK.toN 2 _ rfl ⟨_,_,_,_,_,d0,⟨Q,4,.slice sA q cA,q,bls ((accE fin st el).take q),1⟩,1,q+1,_,rfl,rfl,rfl,rfl,h7,?z1,rfl,?z2,?z3,?z4,?_⟩
  case z1=>intro v hv;simp only[List.mem_cons,List.not_mem_nil,or_false]at hv;subst hv;rfl
  case z2=>unfold maxLen;omega
  case z3=>show (q+1)*1<=140737488355328;omega
  case z4=>exact b5
  intro sU' cU' wM c9;have h8:=Kh (d3.out wM 2 ⟨Q,4,.slice sA q cA,q,bls ((accE fin st el).take q),1⟩ (.slice sU' (q+1) cU') (q+1) [.bool bb] rfl c9);have CM:Hid (wM.cell? ⟨o,4,none⟩=some (.slice sA q cA)/\wM.cell? ⟨xb,xo+st,none⟩=some (.int .i64 (y:Int))/\wM.cell? ⟨fb,fo+y,none⟩=some (.bool bb)):=Kh (H1.out wM _ h8.out);refine hK.out _ _ ⟨trivial,fun _=>CM.out⟩ ?_;clear hK K C9 a2 d0 b5 d3 h7 H0 c9
  try simp only[Act.put,sPa,sPb,sPc]
  refine zP 11 ?_;refine jg 12 fun K hK=>?_;have q7:=zJ h8.out.box 4;simp only[sPd,sPe,sPf]at q7;have f7:=zB h8.out.box 4;go_simp;refine hK.out _ _ ⟨trivial,fun h=>by simp at h⟩ ?_;clear hK K q7 f7 CM
  try simp only[Act.put,sPa,sPb,sPc]
  refine uY yk ?_ _;refine NoPanic.normal ?_;obtain⟨wZ,b6⟩:=Nm (wM.setCell ⟨o,4,none⟩ (.slice sU' (q+1) cU'));have h4:=h8.out.set 4 (.slice sU' (q+1) cU');rw[<-b6]at h4⊢;simp only[sPa,sPb,sPc,l6.out]at h4;have e6:=Kh h4;clear h4 b6 h8;go_wp2;go_roundg (m-(q+1))
  case measure=>have:=d4.out;omega
  exact⟨q+1,sW2,cW2,sU',cU',yo,by go_num,e6.out⟩
 have r3:m=q:=by have:=d4.out;omega
 subst r3;obtain⟨wo,rfl⟩:=Nm (wr:World);clear hq d2;go_wp2
 go_loopg [14,71] gs.length (fun gh v14 i wr=>∃(q:Nat) (sI:Option Addr) (cI:Nat),gh+q=gs.length/\i=.int .i64 q/\BoxS Q X o 39 w5 w6 [⟨Q,4,.slice (some ⟨gp,0,none⟩) m m,m,bls (List.replicate m false),1⟩,⟨Q,9,.slice sW m cW,m,uV ((vX pr la m).take m),1⟩,⟨Q,4,.slice sA m cA,m,bls ((accE fin st el).take m),1⟩,⟨Q,3,.slice sI q cI,q,nats ((imgE gs el).take q),1⟩] #[.int .i64 gs.length,.slice sT m cT,.slice sW m cW,.slice sI q cI,.slice sA m cA,.slice (some ⟨gp,0,none⟩) m m] wr)
 case atStart=>exact⟨0,none,0,yo,rfl,HS.out⟩
 obtain⟨q,sI,cI,c7,rfl,hS⟩:=hrel;have d4:=Kh c7;have HS:=Kh hS;have d2:=Kh hS.grown;clear c7 hS;by_cases hq:q<gs.length
 ·have m7:(q:Int)<gs.length:=yo
  obtain⟨ga,gac,h6,h9⟩:=x8.out q hq;have k3:IsT n (gs.getD q []):=i8.out _ (wT hq);obtain⟨g0,i1⟩:=Nm (gs.getD q []);rw[<-i1]at h6 h9 k3;rw[k3.1]at h6 h9;have s5:=zN h6 (zE i9.out d2.out)
  have n1:g0∈el:=by
   have:=b1.out;rw[<-HL.out]at this;rw[i1];exact this.image i8.out hq
  obtain⟨ig,k2⟩:=Nm (el.idxOf g0);have i6:Hid (nats ((imgE gs el).take q)++[.int .i64 ((ig:Nat):Int)]=nats ((imgE gs el).take (q+1))):=Kh (by rw[k2,i1];exact qKZ hq)
  have y2:Hid (∀W:World,w5.grownBy W none->Calls Tryz.prog 42 #[.slice (some ⟨eb,eo,none⟩) m cE,.slice ga n gac] W fun e w'=>e=.returned (.int .i64 ((ig:Nat):Int))/\W.grownBy w' none):=Kh (fun W hg=>by
   have h5:=zE b0.out hg;have b2:=zE i9.out hg;have s6:=h9.row.kept b2 yq;refine(eJ W.heap.size B W _ _ el g0 ((HE.out.kept h5 yq).mono h5.size) s6).mono ?_;rintro e w' ⟨h1,md,h2⟩;rw[qOE n1,<-k2]at h1
   exact⟨h1,by rw[h2];exact zT W md none⟩)
  have H1:Hid (∀(W:World) (rs:List RowS),BoxS Q X o 39 w5 w6 rs #[.int .i64 gs.length,.slice sT m cT,.slice sW m cW,.slice sI q cI,.slice sA m cA,.slice (some ⟨gp,0,none⟩) m m] W->W.cell? ⟨o,3,none⟩=some (.slice sI q cI)/\W.cell? ⟨b8,3,none⟩=some (.slice (some ⟨eb,eo,none⟩) m cE)):=Kh (fun W rs hS=>⟨(zU hS.box).2.2.2.1,(yD (zD b4.out hS.grown)).2.2.2.1⟩);clear h6 h9 k3 i1 n1 k2;obtain⟨w7,H2⟩:=Nm wr.drew;have H6:wr.grownBy w7 none:=(by rw[H2];exact zY wr none);have e5:=Kh H2;have d5:=Kh H6;clear H2 H6;go_upto_region 14 with fail;refine wp_region_noPanic ?_;refine yI (G:=xM 9 (fun _=>True) (fun W=>W.cell? ⟨o,3,none⟩=some (.slice sI q cI)/\W.cell? ⟨b8,3,none⟩=some (.slice (some ⟨eb,eo,none⟩) m cE))) yk ?_;rw[<-e5.out];have a3:=Kh (HS.out.grow d5.out);have C:Hid (w7.cell? ⟨o,3,none⟩=some (.slice sI q cI)/\w7.cell? ⟨b8,3,none⟩=some (.slice (some ⟨eb,eo,none⟩) m cE)):=Kh (H1.out w7 _ a3.out);refine zP 0 ?_;refine xD 1 ?_;refine zP 2 ?_;refine xD 3 ?_;refine zP 4 ?_;refine jg 5 fun K hK=>?_;go_simp
  go_at_call 42
  refine(y2.out w7 (zE d2.out d5.out)).mono ?_;rintro e w8 ⟨rfl,g1⟩;have e2:=Kh (a3.out.grow g1);have C8:Hid (w8.cell? ⟨o,3,none⟩=some (.slice sI q cI)/\w8.cell? ⟨b8,3,none⟩=some (.slice (some ⟨eb,eo,none⟩) m cE)):=Kh (H1.out w8 _ e2.out);refine hK.out _ _ ⟨trivial,fun _=>C8.out⟩ ?_;clear hK K C a3 g1
  try simp only[Act.put,sPa,sPb,sPc]
  refine jg 6 fun K hK=>?_;go_simp;have H0:=heap_alloc_new w8 (.cells #[.int .i64 ((ig:Nat):Int)] 3);have H5:=Ga w8 (.cells #[.int .i64 ((ig:Nat):Int)] 3) none;obtain⟨gR,c8⟩:=Nm w8.heap.size;obtain⟨w9,b7⟩:=Nm (w8.alloc (.cells #[.int .i64 ((ig:Nat):Int)] 3));rw[<-c8]at H0⊢;rw[<-b7]at H0 H5⊢;have a2:=Kh (e2.out.grow H5);have C9:Hid (w9.cell? ⟨o,3,none⟩=some (.slice sI q cI)/\w9.cell? ⟨b8,3,none⟩=some (.slice (some ⟨eb,eo,none⟩) m cE)):=Kh (H1.out w9 _ a2.out);refine hK.out _ _ ⟨trivial,fun _=>C9.out⟩ ?_;clear hK K C8 e2 c8 b7 H5
  try simp only[Act.put,sPa,sPb,sPc]
  obtain⟨d0,b5,h3⟩:=a2.out.push;have d3:=Kh h3;have h7:=bR H0;clear h3;refine jg 7 fun K hK=>?_;refine oC rfl (.tmp 76) (.tmp 81) 22 rfl yJ.toN 3 _ rfl ⟨_,_,_,_,_,d0,⟨Q,3,.slice sI q cI,q,nats ((imgE gs el).take q),1⟩,1,q+1,_,rfl,rfl,rfl,rfl,h7,?z1,rfl,?z2,?z3,?z4,?_⟩
  case z1=>intro v hv;simp only[List.mem_cons,List.not_mem_nil,or_false]at hv;subst hv;rfl
  case z2=>unfold maxLen;omega
  case z3=>show (q+1)*8<=140737488355328;omega
  case z4=>exact b5
  intro sU' cU' wM c9;have h8:=Kh (d3.out wM 3 ⟨Q,3,.slice sI q cI,q,nats ((imgE gs el).take q),1⟩ (.slice sU' (q+1) cU') (q+1) [.int .i64 ((ig:Nat):Int)] rfl c9);have CM:Hid (wM.cell? ⟨o,3,none⟩=some (.slice sI q cI)/\wM.cell? ⟨b8,3,none⟩=some (.slice (some ⟨eb,eo,none⟩) m cE)):=Kh (H1.out wM _ h8.out);refine hK.out _ _ ⟨trivial,fun _=>CM.out⟩ ?_;clear hK K C9 a2 d0 b5 d3 h7 H0 c9
  try simp only[Act.put,sPa,sPb,sPc]
  refine zP 8 ?_;refine jg 9 fun K hK=>?_;have q7:=zJ h8.out.box 3;simp only[sPd,sPe,sPf]at q7;have f7:=zB h8.out.box 3;go_simp;refine hK.out _ _ ⟨trivial,fun h=>by simp at h⟩ ?_;clear hK K q7 f7 CM
  try simp only[Act.put,sPa,sPb,sPc]
  refine uY yk ?_ _;refine NoPanic.normal ?_;obtain⟨wZ,b6⟩:=Nm (wM.setCell ⟨o,3,none⟩ (.slice sU' (q+1) cU'));have h4:=h8.out.set 3 (.slice sU' (q+1) cU');rw[<-b6]at h4⊢;simp only[sPa,sPb,sPc,i6.out]at h4;have e6:=Kh h4;clear h4 b6 h8;go_wp2;go_roundg (gs.length-(q+1))
  case measure=>have:=d4.out;omega
  exact⟨q+1,sU',cU',yo,by go_num,e6.out⟩
 have r5:q=gs.length:=by have:=d4.out;omega
 subst r5;obtain⟨w9,rfl⟩:=Nm (wr:World)
 have e4:BoxS Q X o 39 w5 w6 [⟨Q,4,.slice (some ⟨gp,0,none⟩) m m,m,bls (List.replicate m false),1⟩,⟨Q,9,.slice sW m cW,m,uV (vX pr la m),1⟩,⟨Q,4,.slice sA m cA,m,bls (accE fin st el),1⟩,⟨Q,3,.slice sI gs.length cI,gs.length,nats (imgE gs el),1⟩] #[.int .i64 gs.length,.slice sT m cT,.slice sW m cW,.slice sI gs.length cI,.slice sA m cA,.slice (some ⟨gp,0,none⟩) m m] w9:=by
  have:=HS.out;rw[List.take_of_length_le (by rw[oK];exact Nat.le_refl _),List.take_of_length_le (by rw[kV,HL.out];exact Nat.le_refl _),List.take_of_length_le (by rw[kL];exact Nat.le_refl _)]at this;exact this
 have n7:TMat w9.heap.size w9 (.slice sT m cT) T:=(o4.out.kept e4.kept e4.wk).tmat;have o2:w9.ownsRow Q 3 1 (.slice sI gs.length cI) gs.length (nats (imgE gs el)):=e4.own (r:=⟨Q,3,.slice sI gs.length cI,gs.length,nats (imgE gs el),1⟩) yq;have d9:Enm gs n el pr la ri el.length:=by rw[HL.out];exact b1.out.toEnm
 have e9:∀x y,x<m->y<m->(T.getD x []).getD y 0<m:=fun x y hx hy=>by
  have:=(d9.tab i8.out (x:=x) (y:=y) (by rw[HL.out];exact hx) (by rw[HL.out];exact hy)).1;rw[HL.out,<-l8.out]at this;exact this
 have n8:Shape (tabI T):=by
  refine⟨by rw[xS,d1.out];omega,by rw[xS,d1.out];omega,fun x hx=>?_,fun x y hx hy=>?_,fun x y hx hy=>?_⟩
  ·rw[xS,d1.out]at hx⊢
   rw[lB,List.length_map,l8.out,tabE,zQ (by simpa using hx)];simp[rowE]
  ·rw[kZ];omega
  rw[xS,d1.out]at hx hy⊢;rw[kZ];have:=e9 x y hx hy;omega
 have n2:∀g∈imgE gs el,g<(tabI T).length:=fun g hg=>by
  obtain⟨f,hf,rfl⟩:=List.mem_map.1 hg;obtain⟨i,hi,rfl⟩:=List.getElem_of_mem hf;have:=d9.image i8.out hi;rw[zQ hi]at this;rw[xS,d1.out,<-HL.out];exact List.idxOf_lt_length_of_mem this
 have y0:=Kh (aQ w9.heap.size w9.heap.size w9 (.slice sT m cT) (.slice sI gs.length cI) (tabI T) (imgE gs el) (Nat.le_refl _) (Nat.le_refl _) n7.mat n8 (Row.of_owns o2) n2);have x2:=Kh e4;obtain⟨c0,c1,c2,c3,c4,c5⟩:=zU e4.box;clear e4 n7 o2 d9 e9 n8 n2 HS d2 hq c0 c2 c4 c5;go_wp2_with fail;refine y0.out.mono ?_;rintro e w7 ⟨mm,n3,n4,⟨sG,sGc,rfl,d7⟩,H6⟩;obtain⟨L,hL⟩:=Nm (mH (metL (tabI T).length mm));rw[<-hL]at d7⊢
 have g7:∀x∈L,x<m:=fun x hx=>by
  rw[hL]at hx;have:=qNT hx;rw[wF,xS,d1.out]at this;exact this
 have A4:L.length<=m:=by
  rw[hL,mH,wF,xS,d1.out];exact Nat.le_trans (List.length_filter_le _ _) yq
 have o5:=Kh (x2.out.add H6 d7 jd);obtain⟨x9,y5,x7,x6⟩:=Kd n3 n4 hL g7;clear n3 n4 hL g7 d7 H6 c1 c3;go_wp2
 go_loopg [16,91] L.length (fun gh v16 i wr=>∃(q:Nat),gh+q=L.length/\i=.int .i64 q/\BoxS Q X o 39 w5 w6 [⟨Q,4,.slice (some ⟨gp,0,none⟩) m m,m,bls (lS m (L.take q)),1⟩,⟨Q,9,.slice sW m cW,m,uV (vX pr la m),1⟩,⟨Q,4,.slice sA m cA,m,bls (accE fin st el),1⟩,⟨Q,3,.slice sI gs.length cI,gs.length,nats (imgE gs el),1⟩,⟨Q,3,.slice sG L.length sGc,L.length,nats L,1⟩] #[.int .i64 gs.length,.slice sT m cT,.slice sW m cW,.slice sI gs.length cI,.slice sA m cA,.slice (some ⟨gp,0,none⟩) m m] wr)
 case atStart=>exact⟨0,yo,rfl,o5.out⟩
 obtain⟨q,c7,rfl,hS⟩:=hrel;have d4:=Kh c7;have HS:=Kh hS;clear c7 o5;by_cases hq:q<L.length
 ·have m7:(q:Int)<L.length:=yo
  have m8:wr.ownsRow Q 3 1 (.slice sG L.length sGc) L.length (nats L):=hS.own (r:=⟨Q,3,.slice sG L.length sGc,L.length,nats L,1⟩) yq;obtain⟨lb,rfl,z6,s0,o1⟩:=yV m8 yo;have r8:=o1.nat q hq;obtain⟨x,hx⟩:=Nm (L.getD q 0);have e8:x<m:=(by rw[hx];exact x6.out _ (wT hq));rw[<-hx]at r8;have m9:wr.ownsRow Q 4 1 (.slice (some ⟨gp,0,none⟩) m m) m (bls (lS m (L.take q))):=hS.own (r:=⟨Q,4,.slice (some ⟨gp,0,none⟩) m m,m,bls (lS m (L.take q)),1⟩) yq;obtain⟨gp',he,_,_,l5⟩:=yV m9 yo;have he:gp=gp':=by simpa using he
  subst he;have s4:=l5.bool x (by rw[iZ];exact e8);have z8:=l5.frozen x;have j3:(x:Int)<m:=yo;have r9:sGc<=9223372036854775807:=jl s0
  obtain⟨c0,c1,c2,c3,c4,c5⟩:=zU hS.box
  have x4:Hid (lS m (L.take (q+1))=(lS m (L.take q)).set x true):=Kh (by
   rw[yH (d:=0) hq,qGP,hx])
  have l1:=hS.put (j:=0) rfl e8 (.bool true);rw[qEF,<-x4.out]at l1;have x0:=Kh l1;clear hS m8 o1 hx m9 l5 l1 c0 c1 c2 c3 c4;go_wp2;go_roundg (L.length-(q+1))
  case measure=>have:=d4.out;omega
  exact⟨q+1,yo,by go_num,x0.out⟩
 have r4:q=L.length:=by have:=d4.out;omega
 subst r4;have h0:=zD m2.out hS.grown (by have:=o9.out;have:=p6.out;simp);obtain⟨c0,c1,c2,c3,c4,c5⟩:=zU hS.box;obtain⟨p0,p1,p2,p3,p4,p5⟩:=zU h0;have f0:=zB h0 0;have f1:=zB h0 1;have f2:=zB h0 2;have f3:=zB h0 3;have f4:=zB h0 4;have f5:=zB h0 5;have g8:=Kh h0;have A2:P≠o:=(by have:=o9.out;have:=p6.out;have:=HQ.out;omega);clear hS h0;go_wp2;refine bodyPost_ret (v:=.tuple #[.agg #[.int .i64 gs.length,.slice sT m cT,.slice sW m cW,.slice sI gs.length cI,.slice sA m cA,.slice (some ⟨gp,0,none⟩) m m],.int .i64 0]) (by simp[results,Tryz.results23,go_sem,p0,p1,p2,p3,p4,p5]) rfl ?_;obtain⟨m4,H4⟩:=uT g8.out (.int .i64 gs.length) (.slice sT m cT) (.slice sW m cW) (.slice sI gs.length cI) (.slice sA m cA) (.slice (some ⟨gp,0,none⟩) m m);have h4:=HS.out;have s1:wG X wr _:=wG.of_grown h4.mem.lt H4 (fun j e hx=>by have e:P=j:=Oj e;subst e;exact t5.out hx);have oW:wr.ownsRow Q 9 1 (.slice sW m cW) m (uV (vX pr la m)):=h4.own (r:=⟨Q,9,.slice sW m cW,m,uV (vX pr la m),1⟩) yq;have oA:wr.ownsRow Q 4 1 (.slice sA m cA) m (bls (accE fin st el)):=h4.own (r:=⟨Q,4,.slice sA m cA,m,bls (accE fin st el),1⟩) yq;have oI:wr.ownsRow Q 3 1 (.slice sI gs.length cI) gs.length (nats (imgE gs el)):=h4.own (r:=⟨Q,3,.slice sI gs.length cI,gs.length,nats (imgE gs el),1⟩) yq;have oG:wr.ownsRow Q 4 1 (.slice (some ⟨gp,0,none⟩) m m) m (bls (lS m (L.take L.length))):=h4.own (r:=⟨Q,4,.slice (some ⟨gp,0,none⟩) m m,m,bls (lS m (L.take L.length)),1⟩) yq;rw[List.take_length]at oG;refine .inr ⟨⟨gs.length,T,vX pr la m,imgE gs el,accE fin st el,lS m L⟩,_,rfl,⟨el,pr,la,ri,mm,by rw[HL.out];exact b1.out,by rw[HL.out];omega,rfl,by rw[HL.out];exact l8.out,by rw[HL.out],rfl,rfl,x9.out,y5.out,?_⟩,⟨_,_,_,_,_,rfl,?_,?_,?_,?_,?_⟩,?_⟩
 ·rw[HL.out,x7.out,xS,d1.out]
 ·exact(o4.out.kept (h4.kept.trans s1) (Nat.le_trans h4.wk H4.size)).tmatT
 ·exact RowT.of_owns (oW.kept H4 (.inr (zR oW g8.out jd)))
 ·exact RowT.of_owns (oI.kept H4 (.inr (zR oI g8.out jd)))
 ·exact RowT.of_owns (oA.kept H4 (.inr (zR oA g8.out jd)))
 ·exact RowT.of_owns (oG.kept H4 (.inr (zR oG g8.out jd)))
 exact yM (zE i9.out h4.grown) H4 (by show _<=P;have:=i7.out;omega)
open Go.Maps
section
variable {w0 w w':World} {B o n k m d s ub:Nat} {sG:Option Addr} {cG:Nat} {hsG:List Value} {gs els right:List (List Nat)} {pre las beh:List Int} {sgl:List Nat} {tl:List RowS}
theorem RunS.read (h:RunS w0 B o n k m d s ub sG cG hsG gs els pre las right beh sgl tl w):∃(u mb cE cP cL cR cU cW cB cS:Nat) (sE sP sL sR sU sW sB sS:Option Addr),w.heap[o]?=some (.cells #[.int .i64 (n:Int),.bool true,.slice sG k cG,.slice sE m cE,.slice sP m cP,.slice sL m cL,.slice sR d cR,.slice sU u cU,.int .i64 (d:Int),.map (some mb),.slice sW m cW,.slice sB m cB,.slice sS s cS] 124 (0,0))/\nV w.heap.size w (.slice sE m cE) els/\RowT w.heap.size 3 w (.slice sP m cP) (ints pre)/\RowT w.heap.size 3 w (.slice sL m cL) (ints las)/\nV w.heap.size w (.slice sR d cR) right:=by
 obtain⟨X,mb,u,us,h1,h0,ws,sE,sP,sL,sR,sU,sW,sB,sS,cE,cP,cL,cR,cU,cW,cB,cS,hB,hE,hR,hG,⟨c,hM⟩,h2,h3,hl,h4,hw,hu⟩:=h;have oE:=hB.own (r:=⟨B,22,.slice sE m cE,m,h1,1⟩) yq;have oP:=hB.own (r:=⟨B,3,.slice sP m cP,m,ints pre,1⟩) yq;have oL:=hB.own (r:=⟨B,3,.slice sL m cL,m,ints las,1⟩) yq;have oR:=hB.own (r:=⟨B,22,.slice sR d cR,d,h0,1⟩) yq;exact⟨u,mb,cE,cP,cL,cR,cU,cW,cB,cS,sE,sP,sL,sR,sU,sW,sB,sS,hB.box,⟨h1,RowT.of_owns oE,hE.rowsT⟩,RowT.of_owns oP,RowT.of_owns oL,⟨h0,RowT.of_owns oR,hR.rowsT⟩⟩
end
def qTN (gs:List (List Nat))(n:Nat)(w:World)(e:Ending)(w':World):Prop :=
 (e=.returned (.tuple #[.agg #[.int .i64 0,.bool false,.slice none 0 0,.slice none 0 0,.slice none 0 0,.slice none 0 0,.slice none 0 0,.slice none 0 0,.int .i64 0],.int .i64 3])/\nM gs (yO gs n gs.length) n/\w.grownBy w' none) \/
 ∃(el:List (List Nat)) (pr la:List Int) (ri:List (List Nat)) (m u cG cE cP cL cR cU:Nat) (sG sE sP sL sR sU:Option Addr),
  e=.returned (.tuple #[.agg #[.int .i64 n,.bool true,.slice sG gs.length cG,.slice sE m cE,.slice sP m cP,.slice sL m cL,.slice sR m cR,.slice sU u cU,.int .i64 m],.int .i64 0])/\wO gs (yO gs n gs.length) m=((el,pr,la),ri)/\(∀f∈el,IsT n f)/\el.length=m/\m<=2000 /\
  nV w'.heap.size w' (.slice sE m cE) el/\RowT w'.heap.size 3 w' (.slice sP m cP) (ints pr)/\RowT w'.heap.size 3 w' (.slice sL m cL) (ints la)/\nV w'.heap.size w' (.slice sR m cR) ri/\w.grownBy w' none
theorem qGR (B:Nat)(w:World)(v0:Value)(gs:List (List Nat))(n:Nat)(hB:B<=w.heap.size)(h:TMat B w v0 gs)(a6:∀g∈gs,IsT n g)(h1:1<=n)(a5:n<=32)(a7:1<=gs.length)(a9:gs.length<=6):Calls Tryz.prog 82 #[v0,.bool true] w (qTN gs n w):=by
 obtain⟨w1,H0⟩:=Nm (w.alloc (.cells #[.int .i64 0,.bool false,.slice none 0 0,.slice none 0 0,.slice none 0 0,.slice none 0 0,.slice none 0 0,.slice none 0 0,.int .i64 0] 75));have H1:w.grownBy w1 none:=by rw[H0];exact Ga w _ none
 have H2:=heap_alloc_new w (.cells #[.int .i64 0,.bool false,.slice none 0 0,.slice none 0 0,.slice none 0 0,.slice none 0 0,.slice none 0 0,.slice none 0 0,.int .i64 0] 75);rw[<-H0]at H2;have a0:=Kh (qGS B w1 v0 gs n (Nat.le_trans hB H1.size) (h.kept H1 yq) a6 h1 a5 a7 a9);obtain⟨P,hP⟩:=Nm w.heap.size;obtain⟨k,hk⟩:=Nm gs.length;obtain⟨a1,d0,b7,d6,HK⟩:=Ke hP H0 H1 a6 hk;rw[<-hP]at H2;have H4:=Kh H2;rw[<-hk]at a0 a7 a9;clear H0 H1 H2 a6 h hk;go_enter Tryz.func82,Tryz.ntmps82;go_upto_region 1 with fail;rw[<-d0.out,<-a1.out];clear hP;go_wp2_with fail;refine a0.out.mono ?_;rintro e w2 ⟨o,m0,cG,sG,b9,els0,pre0,las0,beh0,sgl0,rfl,h2,h6,H6⟩;have e5:=Kh (zD H4.out H6);obtain⟨b4,b5,e3⟩:=Kc h2 h6 H6;have e0:P<w1.heap.size:=zS H4.out;clear h2 h6 H6 a0;go_wp2
 go_loopg [8] 2000 (fun gh a8 wr=>∃(d m ub:Nat) (els right:List (List Nat)) (pre las beh:List Int) (sgl:List Nat),gh+d=2000/\ub<=6+6*d/\RunS w1 w1.heap.size o n k m d k ub sG cG b9 gs els pre las right beh sgl [] wr/\PEn gs n k d m els pre las right beh sgl)
 case atStart=>exact⟨0,m0,6,_,_,_,_,_,_,rfl,Nat.le_refl _,b4.out,b5.out⟩
 clear b4 b5;obtain⟨d,m,ub,els,right,pre,las,beh,sgl,b2,d8,h2,h6⟩:=hrel;have d9:=h6.dle;have c9:=h6.mle;obtain⟨b6,HR,HP⟩:=Kc b2 h2 h6;have e2:=Kh h2.facts.1;have h7:=Kh (qNE h2 yo);clear h2 h6 b2;by_cases hd:d=m
 ·subst hd
  rw[decide_eq_true rfl]at h7;go_wp2_with fail;refine h7.out.mono ?_;rintro e w3 ⟨rfl,q,rfl⟩;have H5:=HR.out.grow (zT wr q none);have h4:=H5.facts.1;obtain⟨u,mb,cE,cP,cL,cR,cU,cW,cB,cS,sE,sP,sL,sR,sU,sW,sB,sS,h3,hE,H8,H9,H7⟩:=H5.read;obtain⟨w4,a4⟩:=Nm (wr.drewN q);rw[<-a4]at h4 h3 hE H8 H9 H7⊢;have h0:=zD H4.out h4;have H3:=Kh h0;have a3:=Kh (zE b7.out h4);obtain⟨HE,d3,d5,d1,e4⟩:=Ke hE H8 H9 H7 h3;have c0:=zJ h3 0;have c1:=zJ h3 1;have c2:=zJ h3 2;have c3:=zJ h3 3;have c4:=zJ h3 4;have c5:=zJ h3 5;have c6:=zJ h3 6;have c7:=zJ h3 7;have c8:=zJ h3 8;simp only[sPd,sPe,sPf]at c0 c1 c2 c3 c4 c5 c6 c7 c8;obtain⟨p0,p1,p2,p3,p4,p5,p6,p7,p8⟩:=yD h0;have f0:=zB h0 0;have f1:=zB h0 1;have f2:=zB h0 2;have f3:=zB h0 3;have f4:=zB h0 4;have f5:=zB h0 5;have f6:=zB h0 6;have f7:=zB h0 7;have f8:=zB h0 8;clear H5 h4 h3 hE H8 H9 H7 a4 h0 h7 HR;go_wp2;refine bodyPost_ret (v:=.tuple #[.agg #[.int .i64 n,.bool true,.slice sG k cG,.slice sE d cE,.slice sP d cP,.slice sL d cL,.slice sR d cR,.slice sU u cU,.int .i64 d],.int .i64 0]) (by simp[results,Tryz.results82,go_sem,p0,p1,p2,p3,p4,p5,p6,p7,p8]) rfl ?_;obtain⟨b8,h5⟩:=qC H3.out (.int .i64 n) (.bool true) (.slice sG k cG) (.slice sE d cE) (.slice sP d cP) (.slice sL d cL) (.slice sR d cR) (.slice sU u cU) (.int .i64 d)
  have h8:∀e',e'≠75->∀j,(some P:Option Nat)=some j->w4.heap.size<=j\/yS w4 e' j:=fun e' he j hj=>by
   have hj:=Oj hj;subst hj;exact .inr ⟨_,_,_,H3.out,fun e1=>he e1.symm⟩
  have hz:=h5.size;exact .inr ⟨els,pre,las,right,d,u,cG,cE,cP,cL,cR,cU,sG,sE,sP,sL,sR,sU,by rw[HK.out],by rw[<-HK.out];exact HP.out.proc,HP.out.it,HP.out.len,c9,(HE.out.kept h5 (h8 _ jd) (h8 _ jd)).mono hz,(d3.out.kept h5 (h8 _ jd)).mono hz,(d5.out.kept h5 (h8 _ jd)).mono hz,(d1.out.kept h5 (h8 _ jd) (h8 _ jd)).mono hz,yM a3.out h5 (by show _<=P;have:=a1.out;omega)⟩
 rw[decide_eq_false hd]at h7;go_wp2_with fail;refine h7.out.mono ?_;rintro e w3 ⟨rfl,q,rfl⟩;have a2:=Kh (qJI (HR.out.grow (zT wr q none)) HP.out yo d6.out h1 a5 a7 a9 yo);go_wp2_with fail;refine a2.out.mono ?_;rintro e w4 (⟨rfl,b3,h9⟩|⟨m',els',pre',las',beh',row,rfl,b0,b1,h9⟩)
 ·have h0:=zD H4.out h9
  have H3:=Kh h0;have a3:=Kh (zE b7.out h9);have d7:=Kh b3;obtain⟨p0,p1,p2,p3,p4,p5,p6,p7,p8⟩:=yD h0;have f0:=zB h0 0;have f1:=zB h0 1;have f2:=zB h0 2;have f3:=zB h0 3;have f4:=zB h0 4;have f5:=zB h0 5;have f6:=zB h0 6;have f7:=zB h0 7;have f8:=zB h0 8;clear b3 h9 h0 a2 HR h7;go_wp2;refine bodyPost_ret (v:=.tuple #[.agg #[.int .i64 0,.bool false,.slice none 0 0,.slice none 0 0,.slice none 0 0,.slice none 0 0,.slice none 0 0,.slice none 0 0,.int .i64 0],.int .i64 3]) (by simp[results,Tryz.results82,go_sem,p0,p1,p2,p3,p4,p5,p6,p7,p8]) rfl ?_;obtain⟨b8,h5⟩:=qC H3.out (.int .i64 0) (.bool false) (.slice none 0 0) (.slice none 0 0) (.slice none 0 0) (.slice none 0 0) (.slice none 0 0) (.slice none 0 0) (.int .i64 0);exact .inl ⟨rfl,by rw[<-HK.out];exact d7.out,yM a3.out h5 (by show _<=P;have:=a1.out;omega)⟩
 have d2:=Kh b0;have d4:=Kh b1;clear b0 b1 h9 a2 HR h7;go_wp2;go_roundg (2000-(d+1))
 case measure=>have:=b6.out;omega
 exact⟨d+1,m',ub+6,els',right++[row],pre',las',beh',sgl,by have:=b6.out;omega,yo,d2.out,d4.out⟩
end Go.Proofs.YtiknckajkdlppaaGreat
