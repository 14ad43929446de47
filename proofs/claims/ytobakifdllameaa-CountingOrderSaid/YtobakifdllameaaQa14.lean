/- Part 14 of the proof. -/
import Derived.Test.YtobakifdllameaaQa13
set_option linter.unusedVariables false
set_option linter.unusedSimpArgs false
set_option maxRecDepth 100000
set_option maxHeartbeats 16000000
namespace Go.Proofs.Ytobakifdllameaa
open Go.RowKit
theorem dX {n:Nat}{l:List Nat}{q:Nat}(h:q∈l\/n<=q):metL n (l++[q])=metL n l:=by
 refine List.ext_getElem (by simp[metL]) fun i h1 h2=>?_;simp only[metL,List.getElem_map,List.getElem_range,List.mem_append,List.mem_singleton];congr 1;refine propext ⟨?_,.inl⟩;rintro (h3|rfl)
 ·exact h3
 rcases h with h|h
 ·exact h
 simp[metL]at h1;omega
theorem qFR (B:Nat)(w:World)(v:Value)(l:List Nat)(n:Nat)(h:Row B w v (nats l))(hB:B<=w.heap.size)(hn:n<=100000):Calls Try.prog 85 #[v,.int .i64 (n:Int)] w fun e w'=>e=.returned (.slice (some ⟨w.heap.size,0,none⟩) n n)/\Arr w' w.heap.size 4 (bls (metL n l))/\w.grownBy w' none:=by
 have h5:=h.len_le;rw[zQ]at h5;unfold maxLen at h5;obtain⟨va,vc,rfl⟩:=h.shape;rw[zQ]at h⊢;have H:=Kh h;clear h;go_enter Try.func85,Try.ntmps85;go_wp2_with (first|(at_make;refine qV rfl _ _ _ rfl wN rfl .i64 .i64 _ _ n rfl rfl rfl rfl ?b1 ?b2 ?_;(case b1=>omega);(case b2=>(unfold maxLen;omega));intro w2 h0 h6 H1)|fail);have h9:=Kh h0;have h8:=Kh h6;clear h0 h6
 go_loopg [7,12] l.length (fun gh a7 i wr=>∃k:Nat,gh+k=l.length/\i=.int .i64 k/\Arr wr w.heap.size 4 (bls (metL n (l.take k)))/\w.grownBy wr none)
 case atStart=>exact⟨0,rfl,rfl,by rw[List.take_zero,dY,rV];exact h9.out,h8.out⟩
 clear h9 h8;obtain⟨k,hg,rfl,h0,h2⟩:=hrel;obtain⟨HG,HA,h4⟩:=K3 hg h0 h2;clear hg;by_cases hk:k<l.length
 ·have H2:(k:Int)<l.length:=by omega
  obtain⟨ib,io,ic,e,_,H4,H3,h3⟩:=(H.out.kept h2 (by simp)).some_ (by rw[zQ];omega);simp only[Value.slice.injEq]at e;obtain⟨rfl,-,rfl⟩:=e;have ck:=h3.nat k hk;have h1:l.take (k+1)=l.take k++[l.getD k 0]:=yF hk;obtain⟨x,hx⟩:=Nm (l.getD k 0);rw[<-hx]at ck h1;by_cases hxn:x<n
  ·have H0:(x:Int)<n:=by omega
   have cg:=h0.bool x (by rw[xN];exact hxn);have fg:=h0.frozen x;have HS:Hid ((metL n (l.take k)).set x true=metL n (l.take (k+1))):=Kh (by rw[lP,h1]);clear h0 h2 h3 hx h1;go_wp2;go_roundg (l.length-(k+1))
   case measure=>have:=HG.out;omega
   refine⟨k+1,by omega,by go_num,?_,zC h4.out (zG wr ⟨w.heap.size,x,none⟩ _) (fun q e=>by have h7:w.heap.size=q:=Oj e;omega)⟩;rw[<-HS.out];exact HA.out.bool_set x (by rw[xN];exact hxn) true
  have H0:(n:Int)<=x:=by omega
  have HS:Hid (metL n (l.take (k+1))=metL n (l.take k)):=Kh (by rw[h1,dX (.inr (by omega))]);clear h0 h2 h3 hx h1;go_wp2;go_roundg (l.length-(k+1))
  case measure=>have:=HG.out;omega
  exact⟨k+1,by omega,by go_num,by rw[HS.out];exact HA.out,h4.out⟩
 have HE:Hid (l.take k=l):=Kh (List.take_of_length_le (by omega));rw[HE.out]at HA;clear h0 h2;go_wp2;go_ret;exact⟨rfl,HA.out,h4.out⟩
def nD (bs:List Bool):List Nat:=(List.range bs.length).filter fun i=>bs.getD i false
def qP (bs:List Bool)(k:Nat):List Nat:=(List.range k).filter fun i=>bs.getD i false
theorem qBB {bs:List Bool}{k:Nat}:qP bs (k+1)=qP bs k++if bs.getD k false then [k] else []:=by
 unfold qP;rw[List.range_succ,List.filter_append,List.filter_cons,List.filter_nil]
theorem qHC (bs:List Bool)(k:Nat):(qP bs k).length<=k:=by
 have:=List.length_filter_le (fun i=>bs.getD i false) (List.range k);rw[List.length_range]at this;exact this
theorem qBA (w:World)(g:Nat)(bs:List Bool)(h:vO w g 0 (bls bs))(hn:bs.length<=100000):Calls Try.prog 86 #[.slice (some ⟨g,0,none⟩) bs.length bs.length] w fun e w'=>(∃(sa:Option Addr) (sc:Nat),e=.returned (.slice sa (nD bs).length sc)/\w'.ownsRow w.heap.size 3 1 (.slice sa (nD bs).length sc) (nD bs).length (nats (nD bs)))/\w.grownBy w' none:=by
 have H:=Kh h;have H3:=h.1;clear h;go_enter Try.func86,Try.ntmps86;go_wp2
 go_loopg [3,4,5,8] bs.length (fun gh v3 a4 a5 i wr=>∃(k:Nat) (sa:Option Addr) (sc:Nat),gh+k=bs.length/\i=.int .i64 k/\v3=.slice sa (qP bs k).length sc/\wr.ownsRow w.heap.size 3 1 (.slice sa (qP bs k).length sc) (qP bs k).length (nats (qP bs k))/\w.grownBy wr none)
 case atStart=>exact⟨0,none,0,rfl,rfl,rfl,World.ownsRow_nil _ _ _ _,yD _ _⟩
 obtain⟨k,sa,sc,hg,rfl,rfl,h2,h3⟩:=hrel;obtain⟨HG,HO,h4⟩:=K3 hg h2 h3;have h8:=qHC bs k;clear hg h2;by_cases hk:k<bs.length
 ·have H4:(k:Int)<bs.length:=by omega
  have ck:=vO.map (H.out.kept h3 (by simp)) k hk;rw[<-zN (d:=false) hk,Nat.zero_add]at ck;have H0:=h3.size;have h1:=qBB (bs:=bs) (k:=k);clear h3;cases hb:bs.getD k false with
  | true =>
   rw[hb]at ck h1;have HS:Hid (qP bs (k+1)=qP bs k++[k]):=Kh (by rw[h1];rfl);obtain⟨A,hA⟩:=Nm (qP bs k);rw[<-hA]at HO HS h8⊢;clear hb h1 hA;go_wp2_with (first|(at_builtin;refine app1 rfl _ _ _ rfl yI w.heap.size _ A.length (nats A) rfl HO.out _ rfl rfl ?c1 ?c2 ?c3 ?_)|fail)
   case c1=>unfold maxLen;omega
   case c2=>omega
   case c3=>exact H0
   intro sa' sc' w6 h0 h6 h9;have H1:=Kh h0;have H2:=Kh h6;clear h0 h6;go_wp2;go_roundg (bs.length-(k+1))
   case measure=>have:=HG.out;omega
   refine⟨k+1,sa',sc',by omega,by go_num,by rw[HS.out];simp,?_,zC h4.out H2.out (fun q e=>(HO.out.lt q e).1)⟩;rw[HS.out,rK,List.length_append];exact H1.out
  | false =>
   rw[hb]at ck h1;have HS:Hid (qP bs (k+1)=qP bs k):=Kh (by rw[h1];simp);clear hb h1;go_wp2;go_roundg (bs.length-(k+1))
   case measure=>have:=HG.out;omega
   exact⟨k+1,sa,sc,by omega,by go_num,by rw[HS.out],by rw[HS.out];exact HO.out,h4.out⟩
 have h5:k=bs.length:=by have:=HG.out;omega
 have HE:Hid (qP bs k=nD bs):=Kh (by rw[h5];rfl);rw[HE.out]at HO⊢;obtain⟨A,hA⟩:=Nm (nD bs);have h7:=Kh hA;rw[<-hA]at HO⊢;clear h5 h3 hA;go_wp2;go_ret;exact⟨⟨sa,sc,by rw[<-h7.out];rfl,by rw[<-h7.out];exact HO.out⟩,h4.out⟩
def pB (t:List (List Int))(m:List Nat):Prop:=∀x∈m,∀y∈m,entN t x y∈m
def qLM (t:List (List Int))(m:List Nat)(k j:Nat):Prop:=∀x∈m,∀y∈m,(x<k\/(x=k/\y<j))->entN t x y∈m
structure GenI (t:List (List Int))(gs m:List Nat):Prop where
 nd:m.Nodup
 lt:∀x∈m,x<t.length
 base:∀x∈gs,x∈m
 gen:∀x∈m,Gen t gs x
theorem GenI.add {t:List (List Int)}(hs:Shape t){gs m:List Nat}(h:GenI t gs m){x y:Nat}(hx:x∈m)(hy:y∈m)(hz:entN t x y ∉ m):GenI t gs (m++[entN t x y]) where
 nd:=by
  rw[List.nodup_append];exact⟨h.nd,by simp,fun a ha b hb=>by rw[List.mem_singleton]at hb;subst hb;rintro rfl;exact hz ha⟩
 lt:=fun z hz=>by
  rcases List.mem_append.1 hz with hz|hz
  ·exact h.lt z hz
  ·rw[List.mem_singleton]at hz;subst hz;exact qK hs (h.lt x hx) (h.lt y hy)
 base:=fun z hz=>List.mem_append_left _ (h.base z hz)
 gen:=fun z hz=>by
  rcases List.mem_append.1 hz with hz|hz
  ·exact h.gen z hz
  ·rw[List.mem_singleton]at hz;subst hz;exact .mul x y (h.gen x hx) (h.gen y hy)
def qPV (w:World)(t:List (List Int))(gs:List Nat)(e:Ending)(w':World):Prop :=
 ∃m:List Nat,GenI t gs m/\pB t m/\(∃(sa:Option Addr) (sc:Nat),e=.returned (.slice sa (nD (metL t.length m)).length sc)/\w'.ownsRow w.heap.size 3 1 (.slice sa (nD (metL t.length m)).length sc) (nD (metL t.length m)).length (nats (nD (metL t.length m))))/\w.grownBy w' none
theorem cJ (B C:Nat)(w:World)(v gv:Value)(t:List (List Int))(gs:List Nat)(hB:B<=w.heap.size)(hC:C<=w.heap.size)(h:Mat B w v t)(hs:Shape t)(hg:Row C w gv (nats gs))(a9:∀g∈gs,g<t.length):Calls Try.prog 65 #[v,gv] w (qPV w t gs):=by
 obtain⟨tb,off,cap,RB,RO,RC,rfl,c8,b5,hq⟩:=h.sq hs;have d8:cap<=9223372036854775807:=by unfold maxLen at b5;omega
 obtain⟨n,hn⟩:=Nm t.length;have c5:=hs.le;have c6:=hs.pos;have b6:=Kh (qFR C w gv gs n hg hC (by omega));obtain⟨HQ,HS,h5,d2⟩:=K4 hq hs hn a9;rw[<-hn]at c8 c5 c6⊢;clear h hs hg hq a9 b5 hn;go_enter Try.func65,Try.ntmps65;go_wp2_with fail;refine b6.out.mono ?_;rintro e w1 ⟨rfl,H7,b3⟩
 have H4:metL n gs=metL n (yM gs):=by
  refine List.ext_getElem (by simp[metL]) fun i h1 h2=>?_;simp only[metL,List.getElem_map,List.getElem_range,xR]
 rw[H4]at H7;have b8:Hid (GenI t gs (yM gs)):=Kh ⟨tW _,fun x hx=>d2.out x (xR.1 hx),fun x hx=>xR.2 hx,fun x hx=>.base x (xR.1 hx)⟩;obtain⟨G,hG⟩:=Nm w.heap.size;have d3:=Kh hG;rw[<-hG]at H7⊢;have c3:=Kh H7;have c1:=Kh b3;clear H7 b3 H4 hG b6;go_wp2
 go_loopg [6] (2*n+1) (fun gh v6 wr=>∃(m:List Nat) (b:Bool),v6=.bool b/\2*(n-m.length)+(if b then 1 else 0)<=gh/\GenI t gs m/\(b=false->pB t m)/\Arr wr G 4 (bls (metL n m))/\w.grownBy wr none)
 case atStart=>exact⟨yM gs,true,rfl,by simp;omega,b8.out,(fun h=>by cases h),c3.out,c1.out⟩
 clear c3 c1 b8;obtain⟨m,b,rfl,b1,H6,b4,h3,h8⟩:=hrel;obtain⟨c0,b9,d5,HA,h4⟩:=K5 b1 H6 b4 h3 h8;have d9:m.length<=n:=rS H6.nd (fun q hq=>by rw[h5.out];exact H6.lt q hq);clear b1 H6 b4 h3 h8;cases b with
 | false =>
  have H5:=d5.out rfl;have HM:=Kh (fun W hW=>qBA W G (metL n m) hW (by rw[xN];omega));have a5:=xN n m;obtain⟨bs,c9⟩:=Nm (metL n m);have a4:=HA.out.row;have b7:=Kh (HM.out wr a4);rw[a5]at b7;have a3:=Kh H5;clear a4 a5 c9 H5 HM;go_wp2_with fail;refine b7.out.mono ?_;rintro e w5 ⟨⟨sa,sc,rfl,ho⟩,b2⟩;have HO:=Kh ho;have d4:=Kh b2;obtain⟨A,hA⟩:=Nm (nD (metL n m));have c2:=Kh hA;rw[<-hA]at HO⊢;clear ho b2 hA;go_wp2;go_ret;refine⟨m,b9.out,a3.out,⟨sa,sc,?_,?_⟩,zH h4.out d4.out⟩
  ·rw[<-h5.out,<-c2.out];rfl
  rw[<-h5.out,<-c2.out];exact wJ HO.out h4.out.size
 | true =>
  go_wp2
  go_loopg [6,7,16] n (fun gx v6 a7 i wr=>∃(k:Nat) (m':List Nat) (c:Bool),gx+k=n/\i=.int .i64 k/\v6=.bool c/\m.length<=m'.length/\(c=true->m.length<m'.length)/\(c=false->qLM t m' k 0)/\GenI t gs m'/\Arr wr G 4 (bls (metL n m'))/\w.grownBy wr none)
  case atStart=>exact⟨0,m,false,rfl,rfl,rfl,Nat.le_refl _,(fun h=>by cases h),(fun _ x hx y hy h=>by omega),b9.out,HA.out,h4.out⟩
  clear HA h4;obtain⟨k,m',c,b0,rfl,rfl,H2,hc,H3,h6,h3,h8⟩:=hrel;obtain⟨d1,HC,H0,h0,HA,h4⟩:=K6 b0 hc H3 h6 h3 h8;have h9:=Kh H2;clear b0 hc H3 h6 h3 h8 H2;by_cases hk:k<n
  ·have e1:(k:Int)<n:=by omega
   go_wp2
   go_loopg [6,8,21] n (fun gy v6 a8 i wr=>∃(j:Nat) (m':List Nat) (c:Bool),gy+j=n/\i=.int .i64 j/\v6=.bool c/\m.length<=m'.length/\(c=true->m.length<m'.length)/\(c=false->qLM t m' k j)/\GenI t gs m'/\Arr wr G 4 (bls (metL n m'))/\w.grownBy wr none)
   case atStart=>exact⟨0,m',c,rfl,rfl,rfl,h9.out,HC.out,H0.out,h0.out,HA.out,h4.out⟩
   clear HA h4 HC H0 h0 h9;obtain⟨j,m',c,a6,rfl,rfl,H2,hc,H3,h6,h3,h8⟩:=hrel;obtain⟨H8,HC,H0,h0,HA,h4⟩:=K6 a6 hc H3 h6 h3 h8;have h9:=Kh H2;clear a6 hc H3 h6 H2;by_cases hj:j<n
   ·have e2:(j:Int)<n:=by omega
    have hq:=HQ.out.kept h8 (fun x e=>by cases e);have ch:=hq.hd k (by rw[<-h5.out];exact hk);have ce:=hq.el k j (by rw[<-h5.out];exact hk) (by rw[<-h5.out];exact hj);have c4:=(hq.cap k (by rw[<-h5.out];exact hk)).1;rw[<-h5.out]at ch c4;have hz:=qK HS.out (show k<t.length by rw[<-h5.out];exact hk) (show j<t.length by rw[<-h5.out];exact hj);rw[<-h5.out]at hz;have cx:=h3.bool k (by rw[xN];exact hk);have cy:=h3.bool j (by rw[xN];exact hj);rw[mG hk]at cx;rw[mG hj]at cy;obtain⟨z,H9⟩:=Nm (entN t k j);rw[<-H9]at ce hz;have cz:=h3.bool z (by rw[xN];exact hz);rw[mG hz]at cz;have fz:=h3.frozen z;have d6:(z:Int)<n:=(by omega);have a0:=Kh H9;clear H9 hq h3 h8
    have skip:(k∈m'->j∈m'->z∈m')->Hid (c=false->qLM t m' k (j+1)):=fun h=>Kh (fun hcf x hx y hy hxy=>by
     rcases hxy with hxy|⟨rfl,hy1⟩
     ·exact H0.out hcf x hx y hy (.inl hxy)
     rcases Nat.lt_succ_iff_lt_or_eq.1 hy1 with hy1|rfl
     ·exact H0.out hcf x hx y hy (.inr ⟨rfl,hy1⟩)
     rw[<-a0.out];exact h hx hy)
    have a1:=Kh skip;clear skip;by_cases hkm:k∈m'
    ·rw[decide_eq_true hkm]at cx
     by_cases hjm:j∈m'
     ·rw[decide_eq_true hjm]at cy
      by_cases hzm:z∈m'
      ·rw[decide_eq_true hzm]at cz
       have H1:=a1.out (fun _ _=>hzm);clear hkm hjm hzm;go_wp2;go_roundg (n-(j+1))
       case measure=>have:=H8.out;omega
       exact⟨j+1,m',c,by omega,by go_num,rfl,h9.out,HC.out,H1.out,h0.out,HA.out,h4.out⟩
      rw[decide_eq_false hzm]at cz;have d0:Hid (GenI t gs (m'++[z])):=Kh (by have:=h0.out.add HS.out hkm hjm (by rw[<-a0.out];exact hzm);rwa [<-a0.out]at this);clear hkm hjm hzm;go_wp2;go_roundg (n-(j+1))
      case measure=>have:=H8.out;omega
      refine⟨j+1,m'++[z],true,by omega,by go_num,rfl,by have:=h9.out;simp;omega,fun _=>by have:=h9.out;simp;omega,(fun h=>by cases h),d0.out,?_,zC h4.out (zG wr ⟨G,z,none⟩ _) (fun q e=>by have h7:G=q:=Oj e;have:=d3.out;omega)⟩;have h1:=HA.out.bool_set z (by rw[xN];exact hz) true;rw[lP]at h1;exact h1
     rw[decide_eq_false hjm]at cy;have H1:=a1.out (fun _ h=>absurd h hjm);clear hkm hjm cz;go_wp2;go_roundg (n-(j+1))
     case measure=>have:=H8.out;omega
     exact⟨j+1,m',c,by omega,by go_num,rfl,h9.out,HC.out,H1.out,h0.out,HA.out,h4.out⟩
    rw[decide_eq_false hkm]at cx;have H1:=a1.out (fun h=>absurd h hkm);clear hkm cz;go_wp2;go_roundg (n-(j+1))
    case measure=>have:=H8.out;omega
    exact⟨j+1,m',c,by omega,by go_num,rfl,h9.out,HC.out,H1.out,h0.out,HA.out,h4.out⟩
   have H1:Hid (c=false->qLM t m' (k+1) 0):=Kh (fun hcf x hx y hy hxy=>by
    have d7:=h0.out.lt y hy;have:=h5.out;refine H0.out hcf x hx y hy ?_
    omega)
   clear h3 h8;go_wp2;go_roundg (n-(k+1))
   case measure=>have:=d1.out;omega
   exact⟨k+1,m',c,by omega,by go_num,rfl,h9.out,HC.out,H1.out,h0.out,HA.out,h4.out⟩
  have a2:Hid (c=false->pB t m'):=Kh (fun hcf x hx y hy=>H0.out hcf x hx y hy (.inl (by have:=h0.out.lt x hx;have:=h5.out;omega)));have c7:m'.length<=n:=rS h0.out.nd (fun q hq=>by rw[h5.out];exact h0.out.lt q hq);cases c with
  | true =>
   have e0:=HC.out rfl;go_wp2;go_roundg (2*(n-m'.length)+1)
   case measure=>have:=c0.out;simp at this;omega
   exact⟨m',true,rfl,by simp,h0.out,(fun h=>by cases h),HA.out,h4.out⟩
  | false =>
   have H2:=h9.out;go_wp2;go_roundg (2*(n-m'.length))
   case measure=>have:=c0.out;simp at this;omega
   exact⟨m',false,rfl,by simp,h0.out,(fun _=>a2.out trivial),HA.out,h4.out⟩
theorem qJQ {w:World}{b m:Nat}(h:(madeCells #[.bool false] m).toList=bls (List.replicate m false))(hb:b<=w.heap.size)(hm:m<=maxLen):(w.alloc (.cells (madeCells #[.bool false] m) 4)).ownsRow b 4 1 (.slice (some ⟨w.heap.size,0,none⟩) m m) m (bls (List.replicate m false)):=by
 refine⟨by simp[bls],.inr ⟨w.heap.size,m,_,rfl,hb,heap_alloc_new w _,Nat.le_refl _,hm,?_,?_⟩⟩
 ·rw[<-Array.length_toList,h];simp[bls]
 rw[h];simp[bls]
inductive of4I (k m b8:Nat)(T:List (List Nat))(vg y0 y1 y2 vE y4 y5 y6 y7 y8:Value)(w5:World)(a0:Act)(l:Array Bool)(a:Act)(w:World):Prop
 | mk (x34:Value) (x38:Value) (x39:Value) (x10:Value) (o:Nat) (ha:a=zM a0 [(34,x34),(38,x38),(39,x39),(10,x10)]) (HR:∀j∈[0,1,2,4,5,6],l.getD j true=true) (H3:Hid (l.getD 3 true=true->∃sa sc,x34=.slice sa m sc/\OwnT 0 w (.slice sa m sc) m T)) (H7:Hid (l.getD 7 true=true->∃g,x38=.slice (some ⟨g,0,none⟩) m m/\w.ownsRow w5.heap.size 4 1 (.slice (some ⟨g,0,none⟩) m m) m (bls (List.replicate m false)))) (H8:Hid (l.getD 8 true=true->l.getD 3 true=true/\l.getD 7 true=true/\x39=.agg #[.int .i64 k,x34,.slice none 0 0,.slice none 0 0,.slice none 0 0,x38])) (H9:Hid (l.getD 9 true=true->x10=.pointer (some ⟨o,0,none⟩)/\w5.heap.size<=o)) (B1:Hid (l.getD 9 true=true->(l.getD 10 true=false->w.heap[o]?=some (.cells #[.int .i64 0,.slice none 0 0,.slice none 0 0,.slice none 0 0,.slice none 0 0,.slice none 0 0] 44 (0,0))))) (B2:Hid (l.getD 10 true=true->l.getD 3 true=true/\l.getD 7 true=true/\l.getD 8 true=true/\l.getD 9 true=true/\w.heap[o]?=some (.cells #[.int .i64 k,x34,.slice none 0 0,.slice none 0 0,.slice none 0 0,x38] 44 (0,0)))) (HG:(w5.grownBy w none))
theorem qPK {k m b8:Nat}{T:List (List Nat)}{vg y0 y1 y2 vE y4 y5 y6 y7 y8:Value}{w5:World}{a0:Act}{l:Array Bool}{a:Act}{w:World}(a9:w5.heap[b8]?=some (.cells #[y0,y1,y2,vE,y4,y5,y6,y7,y8] 90 (0,0)))(h:of4I k m b8 T vg y0 y1 y2 vE y4 y5 y6 y7 y8 w5 a0 l a w):xU 10 (fun W=>W.cell? ⟨b8,0,none⟩=some y0/\W.cell? ⟨b8,1,none⟩=some y1/\W.cell? ⟨b8,2,none⟩=some y2/\W.cell? ⟨b8,3,none⟩=some vE/\W.cell? ⟨b8,4,none⟩=some y4/\W.cell? ⟨b8,5,none⟩=some y5/\W.cell? ⟨b8,6,none⟩=some y6/\W.cell? ⟨b8,7,none⟩=some y7/\W.cell? ⟨b8,8,none⟩=some y8) (fun _=>True) l w:=by
 obtain⟨x34,x38,x39,x10,o,ha,HR,H3,H7,H8,H9,B1,B2,HG⟩:=h;obtain⟨q0,q1,q2,q3,q4,q5,q6,q7,q8⟩:=zU (zB a9 HG);exact⟨⟨q0,q1,q2,q3,q4,q5,q6,q7,q8⟩,fun _=>trivial⟩
theorem qDW {k m b8:Nat}{T:List (List Nat)}{vg y0 y1 y2 vE y4 y5 y6 y7 y8:Value}{w5:World}{a0:Act}{l:Array Bool}{a:Act}{w:World}(h:of4I k m b8 T vg y0 y1 y2 vE y4 y5 y6 y7 y8 w5 a0 l a w):∀j∈[0,1,2,4,5,6],l.getD j true=true:=by
 obtain⟨x34,x38,x39,x10,o,ha,HR,H3,H7,H8,H9,B1,B2,HG⟩:=h;exact HR
theorem qGL {k m b8:Nat}{T:List (List Nat)}{vg y0 y1 y2 vE y4 y5 y6 y7 y8:Value}{w5:World}{v0 v1 v2 v3 v4 v5 v6 v7 v8 v9 l7 l8 l9 k6 k7 k8 k9 j0 j1 j2 j3 j4 j5 j6 j7 j8 j9 i0 i1 i2 i3 i4 i5 i6 i7 i8 i9 g0 g1 g2 g3 g4 g5 g6 g8 g9 f6 f7 f8 f9 e0 e1 e2 e3 e4 e5 e6 e7 e8 e9 d0 d1 d2 d3 d4 d5 d6 d7 d8 d9 c0 c1 c2 c3 c4 c5 c6 c7 c8 c9 b0 b1 b2 b3 b4 b5 b6 b7 b9 a1 a2 a3 a4 a5 a8:Value}{dd:_}{a0:Act}(a9:a0=⟨#[v0,v1,v2,v3,v4,v5,v6,v7,v8,v9,l7,l8,l9,k6,k7,k8,k9,j0,j1,j2,j3,j4,j5,j6,j7,j8,j9,i0,i1,i2,i3,vg,.int .i64 k,.agg #[y0,y1,y2,vE,y4,y5,y6,y7,y8],i4,.pointer (some ⟨b8,3,none⟩),vE,.int .i64 m,i5,i6,i7,i8,i9,g0,g1,g2,g3,g4,g5,g6,g8,g9,f6,f7,f8,f9,e0,e1,e2,e3,e4,e5,e6,e7,e8,e9,d0,d1,d2,d3,d4,d5,d6,d7,d8,d9,c0,c1,c2,c3,c4,c5,c6,c7,c8,c9,b0,b1,b2,b3,b4,b5,b6,b7,b9,a1,a2,a3,a4,a5,a8],dd⟩)(l4:∀W:World,w5.grownBy W none->Calls Try.prog 62 #[.agg #[y0,y1,y2,vE,y4,y5,y6,y7,y8]] W (gV W T))(l5:T.length=m)(l3:∀w:World,(Instr.makeSlice 26 (.int .i64 (m:Int)) (.int .i64 (m:Int))).run Try.prog w=.ok (.slice (some ⟨w.heap.size,0,none⟩) m m) (w.alloc (.cells (madeCells #[.bool false] m) 4)))(a6:Hid ((madeCells #[.bool false] m).toList=bls (List.replicate m false)))(l6:m<=maxLen)(a7:Array Oper)(Q7:Exit->Act->World->Prop):qU (kE Try.prog .any a7 Q7 (of4I k m b8 T vg y0 y1 y2 vE y4 y5 y6 y7 y8 w5 a0)) 0 (rI Try.f38 4).toList:=by
 refine⟨?s0,?s1,?s2,?s3,?s4,?s5,?s6,?s7,?s8,?s9,?s10,trivial⟩
 case s0 =>
  exact fun l a w h h1=>absurd (qDW h 0 (by simp)) (by rw[h1];simp)
 case s1 =>
  exact fun l a w h h1=>absurd (qDW h 1 (by simp)) (by rw[h1];simp)
 case s2 =>
  exact fun l a w h h1=>absurd (qDW h 2 (by simp)) (by rw[h1];simp)
 case s3 =>
  intro l a w h h1 h0 K hK;obtain⟨x34,x38,x39,x10,o,ha,HR,H3,H7,H8,H9,B1,B2,HG⟩:=h;subst ha;rw[a9];simp only[zM,List.foldl_cons,List.foldl_nil,Act.put,sPa,sPb,sPc];go_simp
  go_at_call 62
  refine(l4 w HG).mono ?_;rintro e w6 ⟨sa,sc,rfl,h2,h5⟩;rw[l5]at h2⊢;refine hK.out _ _ ?_;refine⟨(.slice sa m sc),x38,x39,x10,o,?fa3,fun j hj=>zD (HR j hj),Kh (fun _=>⟨sa,sc,rfl,h2.base (Nat.zero_le _)⟩),Kh (fun h=>let ⟨g,e,ho⟩:=H7.out (zE (by decide) h);⟨g,e,zX ho h5⟩),(hs7A H8 h1),(hs7P H9),Kh (fun h h9=>zB (B1.out (zE (by decide) h) (zI h9)) h5),(hs7A B2 h1),zC HG h5⟩
  case fa3=>rw[a9];simp only[zM,List.foldl_cons,List.foldl_nil,Act.put,sPa,sPb,sPc]
 case s4 =>
  exact fun l a w h h1=>absurd (qDW h 4 (by simp)) (by rw[h1];simp)
 case s5 =>
  exact fun l a w h h1=>absurd (qDW h 5 (by simp)) (by rw[h1];simp)
 case s6 =>
  exact fun l a w h h1=>absurd (qDW h 6 (by simp)) (by rw[h1];simp)
 case s7 =>
  intro l a w h h1 h0 K hK;obtain⟨x34,x38,x39,x10,o,ha,HR,H3,H7,H8,H9,B1,B2,HG⟩:=h;subst ha;rw[a9];simp only[zM,List.foldl_cons,List.foldl_nil,Act.put,sPa,sPb,sPc];go_simp;have h3:=qJQ a6.out HG.size l6;refine hK.out _ _ ?_;refine⟨x34,(.slice (some ⟨w.heap.size,0,none⟩) m m),x39,x10,o,?fa7,fun j hj=>zD (HR j hj),Kh (fun h=>let ⟨sa,sc,e,ho⟩:=H3.out (zE (by decide) h);⟨sa,sc,e,ho.grow (Ga w (.cells (madeCells #[.bool false] m) 4) none)⟩),Kh (fun _=>⟨w.heap.size,rfl,h3⟩),(hs7B H8 h1),(hs7P H9),Kh (fun h h9=>zB (B1.out (zE (by decide) h) (zI h9)) (Ga w (.cells (madeCells #[.bool false] m) 4) none)),(hs7B B2 h1),zC HG (Ga w (.cells (madeCells #[.bool false] m) 4) none)⟩
  case fa7=>rw[a9];simp only[zM,List.foldl_cons,List.foldl_nil,Act.put,sPa,sPb,sPc]
 case s8 =>
  intro l a w h h1 h0 K hK;obtain⟨x34,x38,x39,x10,o,ha,HR,H3,H7,H8,H9,B1,B2,HG⟩:=h;have DH3:=H3.out (zK (h0 ⟨3,.data⟩ (by simp) rfl));have DH7:=H7.out (zK (h0 ⟨7,.data⟩ (by simp) rfl));obtain⟨sa,sc,rfl,h2⟩:=DH3;obtain⟨g7,rfl,h3⟩:=DH7;subst ha;rw[a9];simp only[zM,List.foldl_cons,List.foldl_nil,Act.put,sPa,sPb,sPc];go_simp;refine hK.out _ _ ?_;refine⟨(.slice sa m sc),(.slice (some ⟨g7,0,none⟩) m m),(.agg #[.int .i64 k,.slice sa m sc,.slice none 0 0,.slice none 0 0,.slice none 0 0,.slice (some ⟨g7,0,none⟩) m m]),x10,o,?fa8,fun j hj=>zD (HR j hj),Kh (fun _=>⟨sa,sc,rfl,h2⟩),Kh (fun _=>⟨g7,rfl,h3⟩),Kh (fun _=>⟨zD (zK (h0 ⟨3,.data⟩ (by simp) rfl)),zD (zK (h0 ⟨7,.data⟩ (by simp) rfl)),rfl⟩),(hs7P H9),Kh (fun h h9=>B1.out (zE (by decide) h) (zI h9)),Kh (fun h=>absurd (B2.out (zE (by decide) h)).2.2.1 (by rw[h1];simp)),HG⟩
  case fa8=>rw[a9];simp only[zM,List.foldl_cons,List.foldl_nil,Act.put,sPa,sPb,sPc]
 case s9 =>
  intro l a w h h1 h0 K hK;obtain⟨x34,x38,x39,x10,o,ha,HR,H3,H7,H8,H9,B1,B2,HG⟩:=h;subst ha;rw[a9];simp only[zM,List.foldl_cons,List.foldl_nil,Act.put,sPa,sPb,sPc];go_simp;refine hK.out _ _ ?_;refine⟨x34,x38,x39,(.pointer (some ⟨w.heap.size,0,none⟩)),w.heap.size,?fa9,fun j hj=>zD (HR j hj),Kh (fun h=>let ⟨sa,sc,e,ho⟩:=H3.out (zE (by decide) h);⟨sa,sc,e,ho.grow (Ga w (.cells #[.int .i64 0,.slice none 0 0,.slice none 0 0,.slice none 0 0,.slice none 0 0,.slice none 0 0] 44) none)⟩),Kh (fun h=>let ⟨g,e,ho⟩:=H7.out (zE (by decide) h);⟨g,e,zX ho (Ga w (.cells #[.int .i64 0,.slice none 0 0,.slice none 0 0,.slice none 0 0,.slice none 0 0,.slice none 0 0] 44) none)⟩),(hs7R H8),Kh (fun _=>⟨rfl,HG.size⟩),Kh (fun _ _=>heap_alloc_new w _),Kh (fun h=>absurd (B2.out (zE (by decide) h)).2.2.2.1 (by rw[h1];simp)),zC HG (Ga w (.cells #[.int .i64 0,.slice none 0 0,.slice none 0 0,.slice none 0 0,.slice none 0 0,.slice none 0 0] 44) none)⟩
  case fa9=>rw[a9];simp only[zM,List.foldl_cons,List.foldl_nil,Act.put,sPa,sPb,sPc]
 intro l a w h h1 h0 K hK;obtain⟨x34,x38,x39,x10,o,ha,HR,H3,H7,H8,H9,B1,B2,HG⟩:=h;have DH9:=H9.out (zK (h0 ⟨9,.data⟩ (by simp) rfl));have DB1:=B1.out (zK (h0 ⟨9,.data⟩ (by simp) rfl));have DH8:=H8.out (zK (h0 ⟨8,.data⟩ (by simp) rfl));have DH3:=H3.out (zK (h0 ⟨3,.chain⟩ (by simp) rfl));have DH7:=H7.out (zK (h0 ⟨7,.phase⟩ (by simp) rfl));obtain⟨rfl,ho⟩:=DH9;obtain⟨h7,h6,rfl⟩:=DH8;obtain⟨sa,sc,rfl,h2⟩:=H3.out h7;have H1:=zK (h0 ⟨8,.data⟩ (by simp) rfl);have H0:=zK (h0 ⟨9,.data⟩ (by simp) rfl);obtain⟨g7,rfl,h3⟩:=H7.out h6;have hb:=DB1 h1;subst ha;rw[a9];simp only[zM,List.foldl_cons,List.foldl_nil,Act.put,sPa,sPb,sPc];obtain⟨k0,k1,k2,k3,k4,k5⟩:=zV hb;have f0:=zA hb 0;have f1:=zA hb 1;have f2:=zA hb 2;have f3:=zA hb 3;have f4:=zA hb 4;have f5:=zA hb 5;go_simp;obtain⟨h8,h4⟩:=vZ hb (.int .i64 k) (.slice sa m sc) (.slice none 0 0) (.slice none 0 0) (.slice none 0 0) (.slice (some ⟨g7,0,none⟩) m m);refine hK.out _ _ ?_;refine⟨(.slice sa m sc),(.slice (some ⟨g7,0,none⟩) m m),(.agg #[.int .i64 k,.slice sa m sc,.slice none 0 0,.slice none 0 0,.slice none 0 0,.slice (some ⟨g7,0,none⟩) m m]),(.pointer (some ⟨o,0,none⟩)),o,?fa10,fun j hj=>zD (HR j hj),Kh (fun _=>⟨sa,sc,rfl,h2.other h4 hb (by decide) (by decide)⟩),Kh (fun _=>⟨g7,rfl,h3.kept h4 (.inr (zS h3 hb (by decide)))⟩),Kh (fun _=>⟨zD h7,zD h6,rfl⟩),Kh (fun _=>⟨rfl,ho⟩),Kh (fun _ h9=>yB h9),Kh (fun _=>⟨zD h7,zD h6,zD H1,zD H0,h8⟩),yN HG h4 (by show _<=o;omega)⟩
 case fa10=>rw[a9];simp only[zM,List.foldl_cons,List.foldl_nil,Act.put,sPa,sPb,sPc]
end Go.Proofs.Ytobakifdllameaa
