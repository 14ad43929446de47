/- Part 33 of the proof: CDiv. -/
import Derived.Test.YtjfdomfendbhfaaQe30
set_option linter.unusedVariables false
set_option linter.unusedSimpArgs false
namespace Go.Proofs.Ytjfdomfendbhfaa
open Go.RowKit Go.Maps
def conR (l:List ClaV):Int:=if sA l=true/\0 < l.length then mW (l.headD default).b else 0
def ConI (l:List ClaV) (k:Nat):Prop:=∀ i,i < k->(l.getD i default).b=(l.headD default).b
theorem ConI.bad {l:List ClaV} {k:Nat} (hk:k < l.length) (h:(l.getD k default).b≠(l.headD default).b):sA l=false:=by
 rw[sA,List.all_eq_false]
 refine⟨l[k],List.getElem_mem hk,?_⟩
 rw[zF hk]at h
 simpa using h
theorem ConI.all {l:List ClaV} (h:ConI l l.length):sA l=true:=by
 rw[sA,List.all_eq_true]
 intro c hc
 obtain⟨i,hi,rfl⟩:=List.getElem_of_mem hc
 have:=h i hi
 rw[zF hi]at this
 simp[this]
set_option maxRecDepth 100000 in
set_option maxHeartbeats 800000 in
theorem constant_any (X:Nat->Prop) (w:World) (v:Value) (l:List ClaV) (h:ClsX X w v l) :
  Calls Try.prog 112 #[v] w fun e w'=>e=.returned (.tuple #[.int .i64 (conR l),.bool (sA l)])/\w.grownBy w' none:=by
 have H6:=h.len_le
 obtain⟨a,c,rfl⟩:=h.shape
 obtain⟨n,hn⟩:∃ n,n=l.length:=⟨_,rfl⟩
 have H:=Kh h;have HN:=Kh hn
 rw[<- hn]at H6 H ⊢
 unfold maxLen at H6
 obtain⟨hb,H7⟩:∃ b,b=(l.headD default).b:=⟨_,rfl⟩
 have H1:=Kh H7
 clear h hn H7
 go_enter Try.func112,Try.ntmps112
 go_wp2
 go_loopg [4,5,7,10] n (fun gh v4 v5 v7 v10 wr=>∃ k:Nat,gh+k=n/\v10=.int .i64 k/\v4=.int .i64 (if k=0 then 0 else mW hb)/\ConI l k/\w.grownBy wr none)
 case atStart=>exact⟨0,rfl,rfl,rfl,fun i hi=>by omega,zN _ _⟩
 case round =>
  obtain⟨k,H8,rfl,rfl,hc,hg⟩:=hrel
  have h3:=Kh H8;have HC:=Kh hc;have HG:=Kh hg
  clear H8 hc
  by_cases hk:k < n
  ·have a6:(k:Int) < n:=by omega
   obtain⟨b,off,cap,e,_,a0,H9,h9⟩:=(H.out.grow hg).at_ (by rw[<- HN.out];omega)
   rw[<- HN.out]at e a0
   simp only[Value.slice.injEq,true_and]at e
   obtain⟨rfl,rfl⟩:=e
   have a9:c<=9223372036854775807:=by unfold maxLen at H9;omega
   have c1:=h9.m k (by rw[<- HN.out];exact hk)
   have c2:=h9.y k (by rw[<- HN.out];exact hk)
   have c3:=h9.n k (by rw[<- HN.out];exact hk)
   obtain⟨U,hU⟩:∃ U,U=mT (l.getD k default).m:=⟨_,rfl⟩
   obtain⟨y,hy⟩:∃ y,y=(l.getD k default).yes:=⟨_,rfl⟩
   obtain⟨z,hz⟩:∃ z,z=(l.getD k default).no:=⟨_,rfl⟩
   rw[<- hU]at c1
   rw[<- hy]at c2
   rw[<- hz]at c3
   have HB:Hid ((l.getD k default).b=decide (0<=y)):=Kh (by rw[hy];rfl)
   have H0:=heap_alloc_new wr (.cells #[.string U,.int .i64 y,.int .i64 z] 99)
   have H4:=Ga wr (.cells #[.string U,.int .i64 y,.int .i64 z] 99) none
   obtain⟨w2,H2⟩:∃ w2,w2=wr.alloc (.cells #[.string U,.int .i64 y,.int .i64 z] 99):=⟨_,rfl⟩
   obtain⟨R,hR⟩:∃ R,R=wr.heap.size:=⟨_,rfl⟩
   rw[<- H2]at H0 H4
   rw[<- hR]at H0
   have a7:=Kh H2;have a8:=Kh hR
   have h6:=Kh (zB hg H4 (by simp))
   obtain⟨r0,r1,r2⟩:=zJ H0
   clear h9 a0 H9 hU hy hz H2 hR H4 H0 hg
   go_upto_region 5 with fail
   rw[<- a7.out,<- a8.out]
   clear c1 c2 c3
   have h4:Hid (∀ b:Bool,(l.getD k default).b=b->b=hb->ConI l (k+1)):=Kh (fun b h1 h2 i hi=>by
    rcases Nat.lt_succ_iff_lt_or_eq.1 hi with hi|rfl
    ·exact HC.out i hi
    ·rw[h1,h2,H1.out])
   have h8:Hid (∀ b:Bool,(l.getD k default).b=b->b≠hb->sA l=false):=Kh (fun b h1 h2=>ConI.bad (by rw[<- HN.out];exact hk) (by rw[h1,<- H1.out];exact h2))
   have a1:Hid (k=0->(l.getD k default).b=hb):=Kh (fun e=>by
    subst e
    rw[H1.out]
    cases l with
    | nil=>have:=HN.out;simp at this;omega
    | cons x l=>rfl)
   by_cases hy0:(0:Int)<=y
   ·have h5:Hid ((l.getD k default).b=true):=Kh (by rw[HB.out];simp[hy0])
    by_cases hk0:k=0
    ·have HE:=Kh (a1.out hk0)
     have h7:Hid (hb=true):=Kh (by rw[<- HE.out,h5.out])
     subst hk0
     go_wp2
     go_roundg (n - (0+1))
     case measure=>have:=h3.out;omega
     case rel=>exact⟨1,by have:=h3.out;omega,rfl,by rw[h7.out];rfl,h4.out true h5.out h7.out.symm,h6.out⟩
    ·have a5:(0:Int) < k:=by omega
     have a4:0 < k:=by omega
     rw[if_neg hk0]
     cases hb with
     | true =>
      have e0:mW true=1:=rfl
      go_wp2
      go_roundg (n - (k+1))
      case measure=>have:=h3.out;omega
      case rel=>exact⟨k+1,by have:=h3.out;omega,by go_num,by rw[if_neg (by omega)];rfl,h4.out true h5.out rfl,h6.out⟩
     | false =>
      have e0:mW false=0:=rfl
      have H5:=Kh (h8.out true h5.out (by simp))
      go_wp2
      refine bodyPost_ret (v:=.tuple #[.int .i64 0,.bool false]) (by simp[results,Try.results112,go_sem]) rfl ?_
      exact⟨by rw[conR,H5.out,if_neg (by simp)],h6.out⟩
   ·have h5:Hid ((l.getD k default).b=false):=Kh (by rw[HB.out];simp[hy0])
    by_cases hk0:k=0
    ·have HE:=Kh (a1.out hk0)
     have h7:Hid (hb=false):=Kh (by rw[<- HE.out,h5.out])
     subst hk0
     go_wp2
     go_roundg (n - (0+1))
     case measure=>have:=h3.out;omega
     case rel=>exact⟨1,by have:=h3.out;omega,rfl,by rw[h7.out];rfl,h4.out false h5.out h7.out.symm,h6.out⟩
    ·have a5:(0:Int) < k:=by omega
     have a4:0 < k:=by omega
     rw[if_neg hk0]
     cases hb with
     | false =>
      have e0:mW false=0:=rfl
      go_wp2
      go_roundg (n - (k+1))
      case measure=>have:=h3.out;omega
      case rel=>exact⟨k+1,by have:=h3.out;omega,by go_num,by rw[if_neg (by omega)];rfl,h4.out false h5.out rfl,h6.out⟩
     | true =>
      have e0:mW true=1:=rfl
      have H5:=Kh (h8.out false h5.out (by simp))
      go_wp2
      refine bodyPost_ret (v:=.tuple #[.int .i64 0,.bool false]) (by simp[results,Try.results112,go_sem]) rfl ?_
      exact⟨by rw[conR,H5.out,if_neg (by simp)],h6.out⟩
  ·have H3:k=n:=by have:=h3.out;omega
   have a6:¬ (k:Int) < n:=by omega
   have a2:Hid (sA l=true):=Kh (ConI.all (by rw[<- HN.out,<- H3];exact HC.out))
   have a3:Hid (conR l=if k=0 then 0 else mW hb):=Kh (by
    rw[conR,a2.out,H1.out,<- HN.out,<- H3]
    by_cases h0:k=0
    ·rw[if_neg (by omega),if_pos h0]
    ·rw[if_pos ⟨rfl,by omega⟩,if_neg h0])
   obtain⟨x,hx⟩:∃ x:Int,x=if k=0 then 0 else mW hb:=⟨_,rfl⟩
   rw[<- hx]at a3 ⊢
   clear H3 hx hg
   go_wp2
   refine bodyPost_ret (v:=.tuple #[.int .i64 x,.bool true]) (by simp[results,Try.results112,go_sem]) rfl ?_
   exact⟨by rw[a3.out,a2.out],HG.out⟩
theorem mT_at {m:List Bool} {p:Nat} (hp:p < m.length):∃ h:p < (mT m).size,((mT m)[p]'h).toNat=if m.getD p false=true then 1 else 0:=by
 refine⟨by rw[fK];exact hp,?_⟩
 have e1:(mT m).data.toList=(mN m).map (fun x=>UInt8.ofNat x):=by
  unfold mT txtT
  rw[strOfNums_data]
  simp[zb]
 have hq:p < (mT m).size:=by rw[fK];exact hp
 have e2:(mT m).data.toList[p]'(by simpa using hq)=(mT m)[p]'hq:=rfl
 rw[<- e2,zF hp]
 simp only[e1,List.getElem_map,mN]
 split <;> rfl
theorem yesL_snoc {l:List ClaV} {k p:Nat} (hk:k < l.length):yesL (l.take (k+1)) p=if (l.getD k default).m.getD p false=true then yesL (l.take k) p ++ [l.getD k default] else yesL (l.take k) p:=by
 rw[zW (d:=default) hk,yesL,List.filter_append,List.filter_cons,List.filter_nil]
 split <;> simp[yesL]
theorem noL_snoc {l:List ClaV} {k p:Nat} (hk:k < l.length):noL (l.take (k+1)) p=if (l.getD k default).m.getD p false=true then noL (l.take k) p else noL (l.take k) p ++ [l.getD k default]:=by
 rw[zW (d:=default) hk,noL,List.filter_append,List.filter_cons,List.filter_nil]
 cases (l.getD k default).m.getD p false <;> simp[noL]
def qCX (w:World) (l:List ClaV) (p:Nat) (e:Ending) (w':World):Prop :=
 ∃ sy cy sn cn,e=.returned (.tuple #[.slice sy (yesL l p).length cy,.slice sn (noL l p).length cn])/\w'.ownsRow w.heap.size 99 3 (.slice sy (yesL l p).length cy) (yesL l p).length (vY (yesL l p))/\w'.ownsRow w.heap.size 99 3 (.slice sn (noL l p).length cn) (noL l p).length (vY (noL l p))/\w.grownBy w' none
structure Two (w:World) (ya na:Option Addr) (yc nc:Nat) (ly ln:List ClaV) (wr:World):Prop where
 y:wr.ownsRow w.heap.size 99 3 (.slice ya ly.length yc) ly.length (vY ly)
 n:wr.ownsRow w.heap.size 99 3 (.slice na ln.length nc) ln.length (vY ln)
 ne:∀ k,(Value.slice ya ly.length yc).ownBlock=some k->(Value.slice na ln.length nc).ownBlock≠some k
 gr:w.grownBy wr none
theorem Two.grow {w wr w':World} {ya na:Option Addr} {yc nc:Nat} {ly ln:List ClaV} (h:Two w ya na yc nc ly ln wr) (hg:wr.grownBy w' none):Two w ya na yc nc ly ln w':=⟨zQ h.y hg,zQ h.n hg,h.ne,zB h.gr hg (by simp)⟩
theorem Two.pushY {w wr w':World} {ya na sa:Option Addr} {yc nc sc:Nat} {ly ln:List ClaV} {c:ClaV} (h:Two w ya na yc nc ly ln wr) (ho:w'.ownsRow w.heap.size 99 3 (.slice sa (ly.length+1) sc) (ly.length+1) (vY ly ++ cval c)) (hg:wr.grownBy w' (Value.slice ya ly.length yc).ownBlock) (hm:mA wr w' (.slice ya ly.length yc) (.slice sa (ly.length+1) sc)) :
  Two w sa na sc nc (ly ++ [c]) ln w':=by
 refine⟨by rw[List.length_append,mR];exact ho,h.n.kept hg ?_,fun k hk=>?_,zB h.gr hg (fun k e=>(h.y.lt k e).1)⟩
 ·rcases hv:(Value.slice na ln.length nc).ownBlock with _|k
  ·exact .inl rfl
  ·exact .inr (fun e=>h.ne k e.symm hv)
 ·rw[List.length_append]at hk
  rcases hm with hm|⟨_,hm⟩
  ·have e:(Value.slice sa (ly.length+1) sc).ownBlock=some k:=hk
   rw[hm]at e;exact h.ne k e
  ·have:=hm k hk
   intro e
   have:=(h.n.lt k e).2
   omega
theorem Two.pushN {w wr w':World} {ya na sa:Option Addr} {yc nc sc:Nat} {ly ln:List ClaV} {c:ClaV} (h:Two w ya na yc nc ly ln wr) (ho:w'.ownsRow w.heap.size 99 3 (.slice sa (ln.length+1) sc) (ln.length+1) (vY ln ++ cval c)) (hg:wr.grownBy w' (Value.slice na ln.length nc).ownBlock) (hm:mA wr w' (.slice na ln.length nc) (.slice sa (ln.length+1) sc)) :
  Two w ya sa yc sc ly (ln ++ [c]) w':=by
 refine⟨h.y.kept hg ?_,by rw[List.length_append,mR];exact ho,fun k hk e0=>?_,zB h.gr hg (fun k e=>(h.n.lt k e).1)⟩
 ·rcases hv:(Value.slice ya ly.length yc).ownBlock with _|k
  ·exact .inl rfl
  ·exact .inr (fun e=>h.ne k hv e.symm)
 ·rw[List.length_append]at e0
  rcases hm with hm|⟨_,hm⟩
  ·have e:(Value.slice sa (ln.length+1) sc).ownBlock=some k:=e0
   rw[hm]at e;exact h.ne k hk e
  ·have:=hm k e0
   have:=(h.y.lt k hk).2
   omega
set_option maxRecDepth 100000 in
set_option maxHeartbeats 800000 in
theorem divide_any (X:Nat->Prop) (w:World) (v:Value) (l:List ClaV) (p:Nat) (h:ClsX X w v l) (hp:∀ c∈l,p < c.m.length/\c.m.length<=400) (hl:l.length<=4000) :
  Calls Try.prog 113 #[v,.int .i64 (p:Int)] w (qCX w l p):=by
 obtain⟨a,c,rfl⟩:=h.shape
 obtain⟨n,hn⟩:∃ n,n=l.length:=⟨_,rfl⟩
 have H:=Kh h;have HN:=Kh hn;have HP:=Kh hp
 rw[<- hn]at hl H ⊢
 clear h hn hp
 go_enter Try.func113,Try.ntmps113
 go_wp2
 go_loopg [4,5,10] n (fun gh v4 v5 v10 wr=>∃ (k:Nat) (ya na:Option Addr) (yc nc:Nat),gh+k=n/\v10=.int .i64 k/\v4=.slice ya (yesL (l.take k) p).length yc/\v5=.slice na (noL (l.take k) p).length nc/\Two w ya na yc nc (yesL (l.take k) p) (noL (l.take k) p) wr)
 case atStart=>exact⟨0,none,none,0,0,rfl,rfl,rfl,rfl,World.ownsRow_nil _ _ _ _,World.ownsRow_nil _ _ _ _,fun k hk=>by simp[Value.ownBlock]at hk,zN _ _⟩
 case round =>
  obtain⟨k,ya,na,yc,nc,a1,rfl,rfl,rfl,hT⟩:=hrel
  have h7:=Kh a1;have HT:=Kh hT
  have hg:=hT.gr
  clear a1 hT
  by_cases hk:k < n
  ·have a8:(k:Int) < n:=by omega
   obtain⟨b,off,cap,e,_,a3,a2,h8⟩:=(H.out.grow hg).at_ (by rw[<- HN.out];omega)
   rw[<- HN.out]at e a3
   simp only[Value.slice.injEq,true_and]at e
   obtain⟨rfl,rfl⟩:=e
   have b4:c<=9223372036854775807:=by unfold maxLen at a2;omega
   have h2:k < l.length:=by rw[<- HN.out];exact hk
   have c1:=h8.m k h2
   have c2:=h8.y k h2
   have c3:=h8.n k h2
   obtain⟨H4,H3⟩:=HP.out (l.getD k default) (by rw[zF h2];exact List.getElem_mem h2)
   have HY:=Kh (yesL_snoc (p:=p) h2);have h1:=Kh (noL_snoc (p:=p) h2)
   have a5:(yesL (l.take k) p).length+(noL (l.take k) p).length<=4000:=by rw[eM,List.length_take];omega
   obtain⟨ly,H5⟩:∃ x,x=yesL (l.take k) p:=⟨_,rfl⟩
   obtain⟨ln,H6⟩:∃ x,x=noL (l.take k) p:=⟨_,rfl⟩
   rw[<- H5,<- H6]at HT a5
   rw[<- H5]at HY ⊢
   rw[<- H6]at h1 ⊢
   obtain⟨d,hd⟩:∃ d,d=l.getD k default:=⟨_,rfl⟩
   rw[<- hd]at c1 c2 c3 HY h1 H4 H3
   obtain⟨a6,h3⟩:=mT_at H4
   have H2:(mT d.m).size<=400:=by rw[fK];exact H3
   have H9:Hid (cval d=[.string (mT d.m),.int .i64 d.yes,.int .i64 d.no]):=Kh rfl
   obtain⟨U,hU⟩:∃ U,U=mT d.m:=⟨_,rfl⟩
   obtain⟨y,hy⟩:∃ y,y=d.yes:=⟨_,rfl⟩
   obtain⟨z,hz⟩:∃ z,z=d.no:=⟨_,rfl⟩
   rw[<- hU,<- hy,<- hz]at H9
   rw[<- hy]at c2
   rw[<- hz]at c3
   generalize hgu:mT d.m=U2 at a6 h3 H2 c1
   have e9:U2=U:=by rw[<- hgu,hU]
   subst e9
   clear hgu hU
   have b3:(p:Int) < U2.size:=by omega
   have h9:=heap_alloc_new wr (.cells #[.string U2,.int .i64 y,.int .i64 z] 99)
   have H7:=Ga wr (.cells #[.string U2,.int .i64 y,.int .i64 z] 99) none
   obtain⟨w2,H0⟩:∃ w2,w2=wr.alloc (.cells #[.string U2,.int .i64 y,.int .i64 z] 99):=⟨_,rfl⟩
   obtain⟨R,hR⟩:∃ R,R=wr.heap.size:=⟨_,rfl⟩
   rw[<- H0]at h9 H7
   rw[<- hR]at h9
   have a9:=Kh H0;have b0:=Kh hR
   have h6:=Kh (HT.out.grow H7)
   have a0:=h6.out.gr.size
   obtain⟨r0,r1,r2⟩:=zJ h9
   obtain⟨bo,a4⟩:∃ bo,bo=d.m.getD p false:=⟨_,rfl⟩
   rw[<- a4]at h3 HY h1
   clear h8 a3 a2 hy hz H0 hR H7 h9 hg hd a4 HT H4 H3 H5 H6
   go_upto_region 4 with fail
   rw[<- a9.out,<- b0.out]
   clear c1 c2 c3
   cases bo with
   | true =>
    rw[if_pos rfl]at h3 HY h1
    have H1:((U2[p].toNat:Nat):Int)=1:=by rw[h3];rfl
    have b1:=Kh h6.out.y
    go_wp2_with (first|(at_builtin;refine sQ rfl _ _ _ rfl fW w.heap.size (.slice ya ly.length yc) ly.length (vY ly) rfl b1.out [.string U2,.int .i64 y,.int .i64 z] rfl rfl ?z1 ?z2 ?z3 ?z4 ?_;(case z1=>(intro v hv;simp only[List.mem_cons,List.not_mem_nil,or_false]at hv;rcases hv with rfl|rfl|rfl <;> rfl));(case z2=>(unfold maxLen;omega));(case z3=>(show (ly.length+1) * 32<=140737488355328;omega));(case z4=>exact a0);intro sv cv wM h0 h5 h4;(have H8:=Kh (h6.out.pushY (c:=d) (by rw[H9.out];exact h0) h5 h4));clear h0 h5 h4)|fail)
    go_wp2
    go_roundg (n - (k+1))
    case measure=>have:=h7.out;omega
    case rel=>exact⟨k+1,sv,na,cv,nc,by have:=h7.out;omega,by go_num,by rw[HY.out,List.length_append];rfl,by rw[h1.out],by rw[HY.out,h1.out];exact H8.out⟩
   | false =>
    rw[if_neg (by simp)]at h3 HY h1
    have H1:((U2[p].toNat:Nat):Int)=0:=by rw[h3];rfl
    have b2:=Kh h6.out.n
    go_wp2_with (first|(at_builtin;refine sQ rfl _ _ _ rfl fW w.heap.size (.slice na ln.length nc) ln.length (vY ln) rfl b2.out [.string U2,.int .i64 y,.int .i64 z] rfl rfl ?z1 ?z2 ?z3 ?z4 ?_;(case z1=>(intro v hv;simp only[List.mem_cons,List.not_mem_nil,or_false]at hv;rcases hv with rfl|rfl|rfl <;> rfl));(case z2=>(unfold maxLen;omega));(case z3=>(show (ln.length+1) * 32<=140737488355328;omega));(case z4=>exact a0);intro sv cv wM h0 h5 h4;(have H8:=Kh (h6.out.pushN (c:=d) (by rw[H9.out];exact h0) h5 h4));clear h0 h5 h4)|fail)
    go_wp2
    go_roundg (n - (k+1))
    case measure=>have:=h7.out;omega
    case rel=>exact⟨k+1,ya,sv,yc,cv,by have:=h7.out;omega,by go_num,by rw[HY.out],by rw[h1.out,List.length_append];rfl,by rw[HY.out,h1.out];exact H8.out⟩
  ·have a7:k=n:=by have:=h7.out;omega
   have a8:¬ (k:Int) < n:=by omega
   have HE:Hid (l.take k=l):=Kh (List.take_of_length_le (by rw[<- HN.out];omega))
   rw[HE.out]at HT ⊢
   clear a7 hg
   go_wp2
   refine bodyPost_ret (v:=.tuple #[.slice ya (yesL l p).length yc,.slice na (noL l p).length nc]) (by simp[results,Try.results113,go_sem]) rfl ?_
   exact⟨ya,yc,na,nc,rfl,HT.out.y,HT.out.n,HT.out.gr⟩
end Go.Proofs.Ytjfdomfendbhfaa
