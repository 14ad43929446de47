/- Part 5 of the proof. -/
import Derived.Test.YtjfdomfendbhfaaQg4
import Derived.Deep.DeepCutAuto
import Derived.Deep.CutBlock
set_option linter.unusedVariables false
set_option linter.unusedSimpArgs false
set_option maxRecDepth 100000
set_option maxHeartbeats 16000000
namespace Go.Proofs.Ytjfdomfendbhfaa
open Go.RowKit
structure BX (W0 W:World)(o:Nat)(X:Nat->Prop)(k:Nat)(fs:List Bool)(t:List (List Int))(hs:List Value)(sf:Option Addr)(cf:Nat)(sn:Option Addr)(cn:Nat):Prop where
 lt:∀ j,X j->j<W.heap.size
 box:W.heap[o]?=some (.cells #[.int .i64 (k:Int),.int .i64 0,.slice sf fs.length cf,.slice sn t.length cn] 42 (0,0))
 ownF:W.ownsRow o 4 1 (.slice sf fs.length cf) fs.length (bls fs)
 ownN:W.ownsRow o 34 1 (.slice sn t.length cn) t.length hs
 rows:uE X 3 ints W hs t
 lo:W0.heap.size<=o
 grown:W0.grownBy W none
section
variable {W0 W W':World} {o k:Nat} {X:Nat->Prop} {fs:List Bool} {t:List (List Int)} {hs:List Value} {sf:Option Addr} {cf:Nat} {sn:Option Addr} {cn:Nat}
theorem BX.start {w:World}{o k:Nat}(hb:w.heap[o]?=some (.cells #[.int .i64 (k:Int),.int .i64 0,.slice none 0 0,.slice none 0 0] 42 (0,0)))(h0:W0.heap.size<=o)(hg:W0.grownBy w none):BX W0 w o (fun _=>False) k [] [] [] none 0 none 0 :=
 ⟨fun _ h=>h.elim,hb,World.ownsRow_nil _ _ _ _,World.ownsRow_nil _ _ _ _,uE.nil,h0,hg⟩
theorem BX.grow (h:BX W0 W o X k fs t hs sf cf sn cn)(hg:W.grownBy W' none):BX W0 W' o X k fs t hs sf cf sn cn where
 lt:=fun j hj=>Nat.lt_of_lt_of_le (h.lt j hj) hg.size
 box:=zB h.box hg (by simp)
 ownF:=zP h.ownF hg
 ownN:=zP h.ownN hg
 rows:=h.rows.keptT hg (by simp)
 lo:=h.lo
 grown:=zA h.grown hg (by simp)
theorem BX.put (h:BX W0 W o X k fs t hs sf cf sn cn){g:Nat}{c:Array Value}{m:Nat×Nat}(hg:W.grownBy W' (some g))(hc:W.heap[g]?=some (.cells c 3 m))(hX:¬ X g)(h0:W0.heap.size<=g):BX W0 W' o X k fs t hs sf cf sn cn where
 lt:=fun j hj=>Nat.lt_of_lt_of_le (h.lt j hj) hg.size
 box:=zB h.box hg (fun e=>by
  have:=Oj e
  subst this
  rw[h.box]at hc
  simp only[Option.some.injEq,Obj.cells.injEq]at hc
  exact absurd hc.2.1 (by decide))
 ownF:=h.ownF.kept hg (.inr (zQ h.ownF hc (by decide)))
 ownN:=h.ownN.kept hg (.inr (zQ h.ownN hc (by decide)))
 rows:=h.rows.kept (fun j hj=>hg.block j (h.lt j hj) (fun e=>by have:=Oj e;subst this;exact hX hj)) hg.size
 lo:=h.lo
 grown:=zA h.grown hg (fun j e=>by have:=Oj e;omega)
theorem BX.pushN (h:BX W0 W o X k fs t hs sf cf sn cn){m:Nat}(hm:t.length=m){rv:Value}{row:List Int}{sn':Option Addr}{cn':Nat}{Y:Nat->Prop}(hXY:∀ j,X j->Y j)(hY:∀ j,Y j->j<W.heap.size)(ho:W'.ownsRow o 34 1 (.slice sn' (m+1) cn') (m+1) (hs++[rv]))(hg:W.grownBy W' (Value.slice sn m cn).ownBlock)(hrow:RowX Y 3 W rv (ints row)){W2:World}(hW2:W2=W'.setCell ⟨o,3,none⟩ (.slice sn' (m+1) cn')):BX W0 W2 o Y k fs (t++[row]) (hs++[rv]) sf cf sn' cn':=by
 subst hm;have hb:=zB h.box hg (zQ h.ownN h.box (by decide));have h0:=heap_setCell_same W' o 3 _ _ (.slice sn' (t.length+1) cn') hb;have g2:=zC W' ⟨o,3,none⟩ (.slice sn' (t.length+1) cn');rw[<- hW2]at h0 g2
 have h1:=h.ownF.kept hg (by
  rcases hv:(Value.slice sf fs.length cf).ownBlock with _|j
  ·exact .inl rfl
  ·refine .inr fun e=>?_
   obtain⟨cu,e',mm,hh,h5⟩:=zS (e':=34) h.ownF (by decide) j hv
   exact zQ h.ownN hh (fun e2=>h5 e2.symm) e.symm)
 have h3:uE Y 3 ints W (hs++[rv]) (t++[row]):=(h.rows.mono hXY).snoc hrow;have h2:=h3.keptT hg (fun j e=>zS h.ownN (by decide) j e);have h4:yH W' 3 o:=⟨_,_,_,hb,by decide⟩;have hz:=hg.size;have h6:=g2.size
 exact⟨fun j hj=>by have:=hY j hj;omega,by rw[h0];simp,h1.kept g2 (.inr (zQ h1 hb (by decide))),by
  rw[List.length_append]
  exact ho.kept g2 (.inr (zQ ho hb (by decide))),h2.keptT g2 (fun j e=>by have:=Oj e;subst this;exact h4),h.lo,zA (zA h.grown hg (fun j e=>Nat.le_trans h.lo (h.ownN.lt j e).1)) g2 (fun j e=>by have e:o=j:=Oj e;have:=h.lo;omega)⟩
theorem BX.pushF (h:BX W0 W o X k fs t hs sf cf sn cn){m:Nat}(hm:fs.length=m){b:Bool}{sf':Option Addr}{cf':Nat}(ho:W'.ownsRow o 4 1 (.slice sf' (m+1) cf') (m+1) (bls fs++[.bool b]))(hg:W.grownBy W' (Value.slice sf m cf).ownBlock){W2:World}(hW2:W2=W'.setCell ⟨o,2,none⟩ (.slice sf' (m+1) cf')):BX W0 W2 o X k (fs++[b]) t hs sf' cf' sn cn:=by
 subst hm;have hb:=zB h.box hg (zQ h.ownF h.box (by decide));have h0:=heap_setCell_same W' o 2 _ _ (.slice sf' (fs.length+1) cf') hb;have g2:=zC W' ⟨o,2,none⟩ (.slice sf' (fs.length+1) cf');rw[<- hW2]at h0 g2
 have h1:=h.ownN.kept hg (by
  rcases hv:(Value.slice sn t.length cn).ownBlock with _|j
  ·exact .inl rfl
  ·refine .inr fun e=>?_
   obtain⟨cu,e',mm,hh,h4⟩:=zS (e':=4) h.ownN (by decide) j hv
   exact zQ h.ownF hh (fun e2=>h4 e2.symm) e.symm)
 have h2:=h.rows.keptT hg (fun j e=>zS h.ownF (by decide) j e);have h3:yH W' 3 o:=⟨_,_,_,hb,by decide⟩;have hz:=hg.size;have h6:=g2.size;have h5:bls (fs++[b])=bls fs++[.bool b]:=by simp[bls]
 exact⟨fun j hj=>by have:=h.lt j hj;omega,by rw[h0];simp,by
  rw[List.length_append,h5]
  exact ho.kept g2 (.inr (zQ ho hb (by decide))),h1.kept g2 (.inr (zQ h1 hb (by decide))),h2.keptT g2 (fun j e=>by have:=Oj e;subst this;exact h3),h.lo,zA (zA h.grown hg (fun j e=>Nat.le_trans h.lo (h.ownF.lt j e).1)) g2 (fun j e=>by have e:o=j:=Oj e;have:=h.lo;omega)⟩
theorem BX.built (h:BX W0 W o X k fs t hs sf cf sn cn)(hl:fs.length=t.length):Built o W o k 0 fs t hs sf cf sn cn:=⟨h.box,h.ownF,h.ownN,h.rows.rowsT,hl⟩
end
def uZ (d:DfaV)(p:List Nat)(q:Nat):List Bool:=(uY p q).map fun q=>d.final.getD q false
def sH (d:DfaV)(p:List Nat)(q:Nat):List (List Int):=(uY p q).map fun q=>vH p (d.next.getD q [])
theorem quotFs_new {d:DfaV}{p:List Nat}{q:Nat}(h:p.getD q 0=cls (p.take q)):uZ d p (q+1)=uZ d p q++[d.final.getD q false]:=by
 rw[uZ,vK h,List.map_append];rfl
theorem quotTs_new {d:DfaV}{p:List Nat}{q:Nat}(h:p.getD q 0=cls (p.take q)):sH d p (q+1)=sH d p q++[vH p (d.next.getD q [])]:=by
 rw[sH,vK h,List.map_append];rfl
theorem quotFs_old {d:DfaV}{p:List Nat}{q:Nat}(h:p.getD q 0≠cls (p.take q)):uZ d p (q+1)=uZ d p q:=by rw[uZ,vJ h];rfl
theorem quotTs_old {d:DfaV}{p:List Nat}{q:Nat}(h:p.getD q 0≠cls (p.take q)):sH d p (q+1)=sH d p q:=by rw[sH,vJ h];rfl
theorem dZ {d:DfaV}{p:List Nat}{q:Nat}(h:Norm p)(hq:q<=p.length):(uZ d p q).length=cls (p.take q):=by rw[uZ,List.length_map,vO h q hq]
theorem dY {d:DfaV}{p:List Nat}{q:Nat}(h:Norm p)(hq:q<=p.length):(sH d p q).length=cls (p.take q):=by rw[sH,List.length_map,vO h q hq]
theorem quot_full {d:DfaV}{p:List Nat}{q:Nat}(hq:q=p.length)(h0:p.getD (st0 d) 0=0):(⟨d.letters,0,uZ d p q,sH d p q⟩:DfaV)=uT d p:=by
 rw[hq,uT,h0];rfl
theorem norm_zero {p:List Nat}(h:Norm p):p.getD 0 0=0:=by
 by_cases h0:0<p.length
 ·have:=(kR h h0).1
  rw[List.take_zero]at this;simpa [cls,zZ] using this
 ·rw[List.getD,List.getElem?_eq_none (by omega)];rfl
theorem tQ (B:Nat)(w:World)(v:Value)(d:DfaV)(hB:B<=w.heap.size)(h:uW B w v d):
  Calls Try.prog 55 #[v] w fun e w'=>e=.returned (.int .i64 (xD d))/\w.grownBy w' none:=by
 obtain⟨fv,nv,rfl,hf,hn⟩:=h;have a2:=hf.len_le;rw[yL]at a2;unfold maxLen at a2;have a5:=hn.len_le;unfold maxLen at a5;obtain⟨fa,fc,rfl⟩:=hf.shape;rw[yL]at hf ⊢;obtain⟨na,nc,rfl⟩:=hn.shape;have HN:=Kh hn;obtain⟨n,a0⟩:∃ n,n=d.final.length:=⟨_,rfl⟩;obtain⟨m,a1⟩:∃ m,m=d.next.length:=⟨_,rfl⟩;obtain⟨L,hL⟩:∃ L,L=d.letters:=⟨_,rfl⟩;obtain⟨S,hS⟩:∃ S,S=d.start:=⟨_,rfl⟩;rw[<- a0]at a2 ⊢;rw[<- a1]at a5 HN ⊢;rw[<- hL,<- hS];have H0:=Kh a0;have H1:=Kh a1;have H8:=Kh hL;have b0:=Kh hS;clear hf hn a0 a1 hL hS;obtain⟨wA,H6⟩:∃ wA,wA=w.alloc (.cells #[.int .i64 L,.int .i64 S,.slice fa n fc,.slice na m nc] 42):=⟨_,rfl⟩;have h3:wA.heap[w.heap.size]?=some (.cells #[.int .i64 L,.int .i64 S,.slice fa n fc,.slice na m nc] 42 (0,0)):=by rw[H6];exact heap_alloc_new w _
 have a7:w.grownBy wA none:=by rw[H6];exact Ga w _ none
 have c0:=zH h3 0 (by simp);have c1:=zH h3 1 (by simp);have c2:=zH h3 2 (by simp);have c3:=zH h3 3 (by simp);simp only[List.getElem_toArray,List.getElem_cons_zero,List.getElem_cons_succ]at c0 c1 c2 c3;have h4:=Kh a7;have h9:=Kh H6;clear h3 a7 H6;by_cases hl:L<1\/6<L
 ·have HE:=Kh (mX (d:=d) (by rw[<- H8.out];exact hl))
  by_cases h1:L<1
  ·clear hl
   go_enter Try.func55,Try.ntmps55;go_upto_region 1 with fail;rw[<- h9.out];go_wp2;go_ret;exact⟨yA HE.out.symm,h4.out⟩
  ·have h6:6<L:=by omega
   clear hl;go_enter Try.func55,Try.ntmps55;go_upto_region 1 with fail;rw[<- h9.out];go_wp2;go_ret;exact⟨yA HE.out.symm,h4.out⟩
 ·have c7:1<=L:=by omega
  have c6:L<=6:=by omega
  have H2:Hid (¬ (d.letters<1\/6<d.letters)):=Kh (by rw[<- H8.out];exact hl);clear hl;by_cases h5:512<n
  ·have HE:=Kh (dJ H2.out (by rw[<- H0.out];exact h5))
   go_enter Try.func55,Try.ntmps55;go_upto_region 1 with fail;rw[<- h9.out];go_wp2;go_ret;exact⟨yA HE.out.symm,h4.out⟩
  ·have H5:Hid (¬ 512<d.final.length):=Kh (by rw[<- H0.out];exact h5)
   by_cases hsh:n=0\/m≠n\/S<0\/n<=S
   ·have HE:=Kh (iD H2.out H5.out (by rw[<- H0.out,<- H1.out,<- b0.out];exact hsh))
    ·by_cases h8:m=n
     ·have e1:((m:Int) != n)=false:=by rw[h8];simp
      have b7:=Kh h8;by_cases hs:S<0
      ·clear hsh h8
       go_enter Try.func55,Try.ntmps55;go_upto_region 1 with fail;rw[<- h9.out];go_wp2;go_ret;exact⟨yA HE.out.symm,h4.out⟩
      ·have b1:(n:Int)<=S:=by omega
       clear hsh h8;go_enter Try.func55,Try.ntmps55;go_upto_region 1 with fail;rw[<- h9.out];go_wp2;go_ret;exact⟨yA HE.out.symm,h4.out⟩
     ·have e1:((m:Int) != n)=true:=by rw[bne_iff_ne];omega
      clear hsh;go_enter Try.func55,Try.ntmps55;go_upto_region 1 with fail;rw[<- h9.out];go_wp2;go_ret;exact⟨yA HE.out.symm,h4.out⟩
   ·have H7:Hid (¬ (d.final.length=0\/d.next.length≠d.final.length\/d.start<0\/d.final.length<=d.start)):=Kh (by rw[<- H0.out,<- H1.out,<- b0.out];exact hsh)
    have h0:0<n:=(by omega);have e0:((n:Int) == 0)=false:=by rw[beq_eq_false_iff_ne];omega
    have h8:m=n:=by omega
    have e1:((m:Int) != n)=false:=by rw[h8];simp
    have c4:0<=S:=by omega
    have b1:S<n:=(by omega);have b2:0<m:=(by omega);have a9:Mat B wA (.slice na m nc) d.next:=HN.out.kept h4.out (by simp);obtain⟨b,off,cap,A,C,e,b6,b5,a6⟩:=a9.some_ (by rw[<- H1.out];exact b2);simp only[Value.slice.injEq]at e;obtain⟨rfl,-,rfl⟩:=e;rw[<- H1.out]at b6;have c5:nc<=9223372036854775807:=by unfold maxLen at b5;omega
    have HM:=Kh a6;have b7:=Kh h8;clear hsh h8 a9 a6;go_enter Try.func55,Try.ntmps55;go_upto_region 1 with fail;rw[<- h9.out];go_wp2
    go_loopg [40] m (fun g i wr=>∃ k:Nat,g+k=m/\i=.int .i64 k/\qIR d k/\wA=wr)
    case atStart=>exact⟨0,rfl,rfl,fun x hx=>absurd hx (by omega),rfl⟩
    case round =>
     obtain⟨k,hg,rfl,H3,rfl⟩:=hrel;have OK:=Kh H3;have HG:=Kh hg;clear H3 hg;by_cases hk:k<m
     ·have H4:k<d.next.length:=by rw[<- H1.out];exact hk
      have a8:=HM.out.hd k H4;have h7:=HM.out.row k H4;have H9:=h7.len_le;rw[yE]at H9;unfold maxLen at H9;obtain⟨r,hr⟩:∃ r,r=d.next.getD k []:=⟨_,rfl⟩;rw[<- hr]at a8 h7 H9;have HR:=Kh hr;have a3:=Kh H4;clear hr H4;by_cases hlr:(r.length:Int)=L
      ·have b8:=Kh hlr
       have b3:((r.length:Int) != L)=false:=by rw[hlr];simp
       obtain⟨rb,ro,rc,e,hb,h1,h2,a4⟩:=h7.some_ (by rw[yE];omega);simp only[Value.slice.injEq]at e;obtain⟨eA,-,rfl⟩:=e;rw[eA]at a8;rw[yE]at h1;have HA:=Kh eA;have RA:=Kh a4;clear eA a4 hlr h7;go_wp2
       go_loopg [51] r.length (fun g j wr'=>∃ y:Nat,g+y=r.length/\j=.int .i64 y/\qIC n r y/\wA=wr')
       case atStart=>exact⟨0,rfl,rfl,fun x hx=>absurd hx (by omega),rfl⟩
       case round =>
        obtain⟨y,hg,rfl,H3,rfl⟩:=hrel;have OKY:=Kh H3;have b9:=Kh hg;clear H3 hg;by_cases hy:y<r.length
        ·have b4:=RA.out.int y hy
         obtain⟨z,hz⟩:∃ z,z=r.getD y 0:=⟨_,rfl⟩;rw[<- hz]at b4;have HZ:=Kh hz;clear hz;by_cases hb1:z<0
         ·have HE:=Kh (rO H2.out H5.out H7.out a3.out (by rw[<- HR.out];exact iY (y:=y) hy (by rw[<- HZ.out];exact .inl hb1)))
          go_wp2;go_ret;exact⟨yA HE.out.symm,h4.out⟩
         ·by_cases hb2:(n:Int)<=z
          ·have HE:=Kh (rO H2.out H5.out H7.out a3.out (by rw[<- HR.out];exact iY (y:=y) hy (by rw[<- HZ.out,<- H0.out];exact .inr hb2)))
           go_wp2;go_ret;exact⟨yA HE.out.symm,h4.out⟩
          ·go_wp2
           go_roundg (r.length - (y+1))
           case measure=>have:=b9.out;omega
           case rel =>
            refine⟨y+1,by omega,by go_num,fun x hx=>?_,rfl⟩;rcases Nat.lt_succ_iff_lt_or_eq.1 hx with hx|rfl
            ·exact OKY.out x hx
            ·rw[<- HZ.out];omega
        ·go_wp2
         go_roundg (m - (k+1))
         case measure=>have:=HG.out;omega
         case rel =>
          refine⟨k+1,by omega,by go_num,fun x hx=>?_,rfl⟩;rcases Nat.lt_succ_iff_lt_or_eq.1 hx with hx|rfl
          ·exact OK.out x hx
          ·rw[<- HR.out,pZ,<- H0.out,<- H8.out]
           exact⟨b8.out,fun z hz=>OKY.out z (by omega)⟩
      ·have b3:((r.length:Int) != L)=true:=by rw[bne_iff_ne];exact hlr
       have HE:=Kh (rO H2.out H5.out H7.out a3.out (by rw[<- HR.out];exact qDM (by rw[<- H8.out];exact hlr)));clear hlr;go_wp2;go_ret;exact⟨yA HE.out.symm,h4.out⟩
     ·have HE:=Kh (qAD H2.out H5.out H7.out (fun q hq=>OK.out q (by have:=H1.out;omega)))
      go_wp2;go_ret;exact⟨yA HE.out.symm,h4.out⟩
def tL (n:Nat)(l:List Nat):List Int:=(List.range n).map fun q=>rD l q
theorem wW (n:Nat)(l:List Nat):(tL n l).length=n:=by simp[tL]
theorem cO {n:Nat}{l:List Nat}{q:Nat}(h:q<n):(tL n l).getD q 0=rD l q:=by
 rw[zG (by rw[wW];exact h)];simp[tL]
theorem cM (n:Nat):tL n []=List.replicate n (-1):=by
 refine List.ext_getElem (by simp[tL]) fun i h1 h2=>by simp[tL,rD]
theorem cL {n:Nat}{l:List Nat}{q:Nat}(hq:q ∉ l):(tL n l).set q (l.length:Int)=tL n (l++[q]):=by
 refine List.ext_getElem (by simp[tL]) fun i h1 h2=>?_;rw[List.getElem_set];simp only[tL,List.getElem_map,List.getElem_range,rD];by_cases e:q=i
 ·subst e
  rw[if_pos rfl,if_pos (by simp),List.idxOf_append,if_neg hq];simp
 ·rw[if_neg e]
  by_cases hi:i∈l
  ·rw[if_pos hi,if_pos (by simp[hi]),List.idxOf_append,if_pos hi]
  ·rw[if_neg hi,if_neg (by simp[hi,Ne.symm e])]
def jT (n k:Nat):List Int:=List.replicate k (-1)++List.replicate (n - k) 0
theorem qS {n k:Nat}(h:k<=n):(jT n k).length=n:=by simp[jT];omega
theorem qBV {n k:Nat}(h:k<n):(jT n k).set k (-1)=jT n (k+1):=by
 unfold jT;rw[List.set_append_right _ _ (by simp),List.length_replicate,Nat.sub_self,show n - k=(n - (k+1))+1 by omega,List.replicate_succ,List.set_cons_zero,List.replicate_succ',List.append_assoc];rfl
def TrimOk (w:World)(m:DfaV)(e:Ending)(w':World):Prop:=∃ v p,e=.returned (.tuple #[v,p])/\pT w w' v m/\w.grownBy w' none
def oR (d:DfaV)(l:List Nat)(i:Nat):List Bool:=(l.take i).map fun q=>d.final.getD q false
def oP (d:DfaV)(l:List Nat)(i:Nat):List (List Int):=(l.take i).map fun q=>xS l (d.next.getD q [])
theorem trimFs_succ {d:DfaV}{l:List Nat}{i:Nat}(h:i<l.length):oR d l (i+1)=oR d l i++[d.final.getD (l.getD i 0) false]:=by
 simp only[oR,zR (d:=0) h,List.map_append,List.map_cons,List.map_nil]
theorem trimTs_succ {d:DfaV}{l:List Nat}{i:Nat}(h:i<l.length):oP d l (i+1)=oP d l i++[xS l (d.next.getD (l.getD i 0) [])]:=by
 simp only[oP,zR (d:=0) h,List.map_append,List.map_cons,List.map_nil]
theorem trimFs_length {d:DfaV}{l:List Nat}{i:Nat}(h:i<=l.length):(oR d l i).length=i:=by simp[oR];omega
theorem trimTs_length {d:DfaV}{l:List Nat}{i:Nat}(h:i<=l.length):(oP d l i).length=i:=by simp[oP];omega
theorem trimRow_get {d:DfaV}{n k:Nat}(hd:VD d n k){l:List Nat}{q a:Nat}(hq:q<n)(ha:a<k):(xS l (d.next.getD q [])).getD a 0=rD l (nx d q a):=by
 rw[xS,tB (x:=0) (by rw[hd.row q hq];exact ha)];rfl
theorem mY {d:DfaV}{n k:Nat}(hd:VD d n k){l:List Nat}{q:Nat}(hq:q<n):(xS l (d.next.getD q [])).length=k:=by rw[xS,List.length_map,hd.row q hq]
theorem qBM (l:List Int)(x:Int):ints (l++[x])=ints l++[.int .i64 x]:=by simp[ints]
theorem trim_any (B:Nat)(w:World)(v:Value)(d:DfaV)(n k:Nat)(hB:B<=w.heap.size)(h:uW B w v d)(hd:VD d n k):Calls Try.prog 82 #[v] w (TrimOk w (xT d k)):=by
 have c6:=h;obtain⟨fb,fo,fc,b,off,cap,RB,RO,RC,rfl,d6⟩:=h.at hd;have hn:=hd.hn;have o5:=hd.n1;have j9:=hd.nbig;have p0:=hd.k6;have p1:=hd.k1;have p5:=d6.fcap.1;have e8:=d6.fcap.2;have p6:=d6.cap.1;have e9:=d6.cap.2;have m6:fc<=9223372036854775807:=by unfold maxLen at e8;omega
 have m5:cap<=9223372036854775807:=by unfold maxLen at e9;omega
 obtain⟨S,hS⟩:∃ S,S=st0 d:=⟨_,rfl⟩;have q7:=Kh hS;have j3:dAgg k (st0 d) fb fo fc b off cap n=.agg #[.int .i64 (k:Int),.int .i64 (S:Int),.slice (some ⟨fb,fo,none⟩) n fc,.slice (some ⟨b,off,none⟩) n cap]:=by rw[hS];rfl
 rw[j3]at c6 ⊢;obtain⟨f0,g1,e6,j2⟩:=nD w #[.int .i64 (k:Int),.int .i64 (S:Int),.slice (some ⟨fb,fo,none⟩) n fc,.slice (some ⟨b,off,none⟩) n cap] #[.int .i64 0,.int .i64 0,.slice none 0 0,.slice none 0 0] 42;obtain⟨wA,i3⟩:∃ wA,wA=(w.alloc (.cells #[.int .i64 (k:Int),.int .i64 (S:Int),.slice (some ⟨fb,fo,none⟩) n fc,.slice (some ⟨b,off,none⟩) n cap] 42)).alloc (.cells #[.int .i64 0,.int .i64 0,.slice none 0 0,.slice none 0 0] 42):=⟨_,rfl⟩;rw[<- i3]at f0 g1 e6 j2;obtain⟨c0,c1,c2,c3⟩:=zF f0;obtain⟨P,hP⟩:∃ P,P=w.heap.size:=⟨_,rfl⟩;have i5:=Kh hP;rw[<- hP]at f0 g1 c0 c1 c2 c3 j2 hB;have g6:=Kh f0;have n6:=Kh g1;have n4:=Kh e6;have n0:=Kh i3;have n7:=Kh (d6.kept e6 (by simp));have HN:=Kh hn;have HD:=Kh hd;have l7:=Kh (access_any B wA _ d n k (by omega) (c6.kept e6 (by simp)) hd);clear f0 g1 e6 i3 d6 hn hd h c6 j3 e8 e9 hS;go_enter Try.func82,Try.ntmps82;go_upto_region 1 with fail;rw[<- n0.out,<- i5.out];clear hP;go_wp2_with fail;refine l7.out.mono ?_;rintro e w1 ⟨sa,sc,vw,rfl,H2,g0⟩;obtain⟨a1,m8⟩:=xQ HD.out;obtain⟨l,hl⟩:∃ l,l=zV d k:=⟨_,rfl⟩;have HL:=Kh hl;rw[<- hl]at H2 a1 m8 ⊢;have H4:=a1.hd.1;obtain⟨gl,rfl,o9,o8,f1⟩:=yW H2 H4;have p3:=(H2.lt gl rfl).1;have j1:=Kh f1;have d8:=Kh g0;have d4:=Kh a1;have n9:=g0.size;obtain⟨d0,d1,d2,d3⟩:=zF (zB g6.out g0 (by simp));clear hl H2 f1 g0 a1 l7 c0 c1 c2 c3;go_wp2_with (first|(at_make;refine lO rfl _ _ _ rfl yU rfl .i64 .i64 _ _ n rfl rfl rfl rfl ?b1 ?b2 ?_;(case b1=>omega);(case b2=>(unfold maxLen;omega));intro w2 h4 k4 i0)|fail);obtain⟨G,hG⟩:∃ G,G=w1.heap.size:=⟨_,rfl⟩;rw[<- hG]at h4 i0 ⊢;have l8:=Kh h4;have l4:=Kh k4;have i8:=Kh hG;have p9:P+1<G:=by omega
 clear h4 k4 hG d0 d1 d2 d3
 go_loopg [7,27] n (fun gh a7 i wr=>∃ q:Nat,gh+q=n/\i=.int .i64 q/\Arr wr G 3 (ints (jT n q))/\w1.grownBy wr none)
 case atStart=>exact⟨0,rfl,rfl,by simpa [jT,pC] using l8.out,l4.out⟩
 case round =>
  clear l8 l4;obtain⟨q,hg,rfl,h4,h5⟩:=hrel;have HG:=Kh hg;have HA:=Kh h4;have H6:=Kh h5;clear hg;by_cases hq:q<n
  ·have m3:(q:Int)<n:=by omega
   have cgk:=h4.int q (by rw[qS (by omega)];exact hq);have fgk:=h4.frozen q;have HS:=Kh (qBV hq);clear h4 h5;go_wp2;go_roundg (n - (q+1))
   case measure=>have:=HG.out;omega
   case rel =>
    refine⟨q+1,by omega,by go_num,?_,zA H6.out (zC wr ⟨G,q,none⟩ _) (fun q e=>by have h7:G=q:=Oj e;have:=i8.out;omega)⟩;rw[<- HS.out];exact HA.out.int_set q (by rw[qS (by omega)];exact hq) (-1)
  ·have j5:q=n:=by have:=HG.out;omega
   have HF:Hid (jT n q=tL n (l.take 0)):=Kh (by rw[j5,List.take_zero,cM];simp[jT]);rw[HF.out]at HA;have i7:=H6;clear j5 h4 h5 HG;obtain⟨w3,rfl⟩:∃ w3:World,w3=wr:=⟨_,rfl⟩;go_wp2
   go_loopg [8,9,36] l.length (fun gh a8 a9 i wr=>∃ q:Nat,gh+q=l.length/\i=.int .i64 q/\Arr wr G 3 (ints (tL n (l.take q)))/\w1.grownBy wr none)
   case atStart=>exact⟨0,rfl,rfl,HA.out,H6.out⟩
   case round =>
    clear HA H6 HF;obtain⟨q,hg,rfl,h4,h5⟩:=hrel;have HG:=Kh hg;have HA:=Kh h4;have H6:=Kh h5;clear hg;by_cases hq:q<l.length
    ·have m3:(q:Int)<l.length:=by omega
     have cl:=(j1.out.kept h5 (by simp)).nat q hq;have g8:l.getD q 0<n:=d4.out.lt _ (by rw[zG hq];exact List.getElem_mem _);have f8:l.take (q+1)=l.take q++[l.getD q 0]:=zR hq
     have b8:l.getD q 0 ∉ l.take q:=by
      have h1:=d4.out.nd;have h2:(l.take (q+1)).Nodup:=h1.sublist (List.take_sublist _ _);rw[f8,List.nodup_append]at h2;exact fun hm=>h2.2.2 _ hm _ (by simp) rfl
     obtain⟨s,hs⟩:∃ s,s=l.getD q 0:=⟨_,rfl⟩;rw[<- hs]at cl g8 f8 b8;have m0:(s:Int)<n:=(by omega);have cgk:=h4.int s (by rw[wW];exact g8);have fgk:=h4.frozen s
     have HS:Hid ((tL n (l.take q)).set s (q:Int)=tL n (l.take (q+1))):=Kh (by
      have:=cL (n:=n) b8;rw[List.length_take,Nat.min_eq_left (by omega)]at this
      rw[this,f8])
     clear h4 h5 f8 b8 hs;go_wp2;go_roundg (l.length - (q+1))
     case measure=>have:=HG.out;omega
     case rel =>
      refine⟨q+1,by omega,by go_num,?_,zA H6.out (zC wr ⟨G,s,none⟩ _) (fun q e=>by have h7:G=q:=Oj e;have:=i8.out;omega)⟩;rw[<- HS.out];exact HA.out.int_set s (by rw[wW];exact g8) (q:Int)
    ·have j6:q=l.length:=by have:=HG.out;omega
     have j8:l.take q=l:=by rw[j6];exact List.take_length
     rw[j8]at HA h4;have l2:=Kh h4;have H0:=Kh h5;clear j6 j8 h4 HA HG h5 i7;obtain⟨w4,rfl⟩:∃ w4:World,w4=wr:=⟨_,rfl⟩;obtain⟨d0,d1,d2,d3⟩:=zF (zB (zB g6.out d8.out (by simp)) H0.out (by simp));go_upto_region 14 with fail;obtain⟨O,hO⟩:∃ O,O=w4.heap.size:=⟨_,rfl⟩;obtain⟨w6,f7⟩:∃ w6,w6=w4.alloc (.cells #[.int .i64 (k:Int),.int .i64 0,.slice none 0 0,.slice none 0 0] 42):=⟨_,rfl⟩;rw[<- f7,<- hO];have c4:w4.grownBy w6 none:=(by rw[f7];exact Ga w4 _ none);have k7:w6.heap[O]?=some (.cells #[.int .i64 (k:Int),.int .i64 0,.slice none 0 0,.slice none 0 0] 42 (0,0)):=by rw[f7,hO];exact heap_alloc_new w4 _
     have l1:Built O w6 O k 0 [] [] [] none 0 none 0:=⟨k7,World.ownsRow_nil _ _ _ _,World.ownsRow_nil _ _ _ _,wH.nil,rfl⟩;have l6:=Kh l1;have f5:=Kh c4;have c9:=Kh hO;have q4:G<O:=(by rw[hO];have:=l2.out.lt;omega);have p8:P+1<O:=(by omega);have l9:=c4.size;clear d0 d1 d2 d3 k7 l1 c4 f7 hO;go_wp2
     go_loopg [51] l.length (fun gh i wr=>∃ (i':Nat) (hs:List Value) (sf:Option Addr) (cf:Nat) (sn:Option Addr) (cn:Nat),gh+i'=l.length/\i=.int .i64 i'/\Built O wr O k 0 (oR d l i') (oP d l i') hs sf cf sn cn/\w4.grownBy wr (some O))
     case atStart=>exact⟨0,[],none,0,none,0,rfl,rfl,l6.out,wE f5.out⟩
     case round =>
      clear l6 f5;obtain⟨i,hs,sf,cf,sn,cn,hg,rfl,H5,h5⟩:=hrel;have g5:=Kh hg;have f6:=Kh H5;have H6:=Kh h5;have n8:=h5.size;clear hg;by_cases hi:i<l.length
      ·have p2:(i:Int)<l.length:=by omega
       have d7:O≠P:=(by omega);have i1:O≠gl:=(by have:=j1.out.lt;have:=i8.out;omega);have e5:∀ x,Hid (x<w4.heap.size->x≠O):=fun x=>Kh (fun h e=>by have:=c9.out;omega);have cl:=((j1.out.kept H0.out (by simp)).kept h5 (fun e=>i1 (Oj e))).nat i hi;have H9:l.getD i 0<n:=d4.out.lt _ (by rw[zG hi];exact List.getElem_mem _);have d9:=Kh (trimFs_succ (d:=d) hi);have f2:=Kh (trimTs_succ (d:=d) hi);have c5:=trimFs_length (d:=d) (Nat.le_of_lt hi);have a5:=trimTs_length (d:=d) (Nat.le_of_lt hi);obtain⟨q0,j7⟩:∃ q0,q0=l.getD i 0:=⟨_,rfl⟩;rw[<- j7]at cl H9 d9 f2;have m2:(q0:Int)<n:=(by omega);have q5:B<=O:=by omega
       have hA:=((n7.out.kept d8.out (by simp)).kept H0.out (by simp)).kept h5 (fun k e=>by have:=Oj e;omega);have ch:=hA.hd q0 H9;obtain⟨d0,d1,d2,d3⟩:=zF (zB (zB (zB g6.out d8.out (by simp)) H0.out (by simp)) h5 (fun e=>d7 (Oj e)));obtain⟨wo,rfl⟩:∃ wo:World,wo=wr:=⟨_,rfl⟩;have j0:=Kh hA;clear hA H5 h5 j7;go_wp2
       go_loopg [13,61] k (fun gh ov i wr=>∃ (a:Nat) (sr:Option Addr) (cr:Nat),gh+a=k/\i=.int .i64 a/\ov=.slice sr a cr/\wr.ownsRow wo.heap.size 3 1 (.slice sr a cr) a (ints ((xS l (d.next.getD q0 [])).take a))/\wo.grownBy wr none)
       case atStart=>exact⟨0,none,0,rfl,rfl,rfl,by simpa [ints] using World.ownsRow_nil _ _ _ _,zL _ _⟩
       case round =>
        obtain⟨a,sr,cr,hg,rfl,rfl,e4,h5⟩:=hrel;have l3:=Kh hg;have a3:=Kh e4;have i6:=Kh h5;clear hg e4 d0 d1 d2 d3;by_cases ha:a<k
        ·have p7:(a:Int)<k:=by omega
         have hA:=j0.out.kept h5 (by simp);have ce:=hA.el q0 a H9 ha;have o4:=(hA.rcap q0 H9).1;have g9:=nO HD.out H9 ha;have cp:=(((l2.out.kept H6.out (fun e=>by have:=Oj e;omega)).kept h5 (by simp))).int (nx d q0 a) (by rw[wW];exact g9);rw[cO g9]at cp
         have i4:Hid ((xS l (d.next.getD q0 [])).take (a+1)=(xS l (d.next.getD q0 [])).take a++[rD l (nx d q0 a)]):=Kh (by
          rw[zR (d:=0) (by rw[mY HD.out H9];exact ha),trimRow_get HD.out H9 ha])
         obtain⟨s,hs⟩:∃ s,s=nx d q0 a:=⟨_,rfl⟩;rw[<- hs]at ce g9 cp i4;obtain⟨c,hc⟩:∃ c,c=rD l s:=⟨_,rfl⟩;rw[<- hc]at cp i4;have f9:=h5.size;have m4:(s:Int)<n:=(by omega);clear hA hs hc h5;go_wp2_with (first|(at_builtin;refine app1 rfl _ _ _ rfl yU wo.heap.size _ a (ints ((xS l (d.next.getD q0 [])).take a)) rfl a3.out _ rfl rfl ?c1 ?c2 ?c3 ?_)|fail)
         case c1=>unfold maxLen;omega
         case c2=>omega
         case c3=>exact f9
         intro sa' sc' w6 a6 k3 m7;have n3:=Kh a6;have n5:=Kh k3;clear a6 k3;go_wp2;go_roundg (k - (a+1))
         case measure=>have:=l3.out;omega
         case rel =>
          refine⟨a+1,sa',sc',by omega,by go_num,rfl,?_,zA i6.out n5.out (fun q e=>(a3.out.lt q e).1)⟩;rw[i4.out,qBM];exact n3.out
        ·have k8:a=k:=by have:=l3.out;omega
         have j4:(xS l (d.next.getD q0 [])).take a=xS l (d.next.getD q0 []):=by rw[k8,<- mY HD.out (l:=l) H9];exact List.take_length
         rw[j4]at a3;obtain⟨w5,g7⟩:∃ w5,w5=wr.drew:=⟨_,rfl⟩;have n2:=Kh g7;have b9:wr.grownBy w5 none:=(by rw[g7];exact zO wr none);have a4:=Kh ((f6.out.grow h5).grow b9);have c8:Hid (RowT w5.heap.size 3 w5 (.slice sr a cr) (ints (xS l (d.next.getD q0 [])))):=Kh (RowT.of_owns (yR a3.out b9 (by simp)));have i9:=Kh (zD H6.out (wE (zD h5 b9) (row:=some O)));have l0:=a4.out.box;have H1:=Kh l0;have g2:=Kh a4.out.notbox;have d5:O<=w5.heap.size:=by have:=h5.size;have:=b9.size;have:=c9.out;omega
         have cq:=(((j0.out.kept h5 (by simp)).kept b9 (by simp))).fin H9;obtain⟨_,_,d2,_⟩:=zF (zB (zB (zB (zB (zB g6.out d8.out (by simp)) H0.out (by simp)) H6.out (fun e=>d7 (Oj e))) h5 (by simp)) b9 (by simp));have p4:=j0.out.flt;have m9:O≠fb:=(by omega);obtain⟨bq,k5⟩:∃ bq,bq=d.final.getD q0 false:=⟨_,rfl⟩;rw[<- k5]at cq d9;obtain⟨fsl,e7⟩:∃ x,x=oR d l i:=⟨_,rfl⟩;obtain⟨tsl,e1⟩:∃ x,x=oP d l i:=⟨_,rfl⟩;rw[<- e7]at a4 H1 d9 c5;rw[<- e1]at a4 H1 f2 a5;have q8:=Kh c5;have q6:=Kh a5;obtain⟨m,hm⟩:∃ m,m=i:=⟨_,rfl⟩;rw[<- hm]at c5 a5;have c7:=Kh a5;have k9:=a4.out.many
         have hM:Many w5 (FB sf sn) w5 [⟨O,34,.slice sn m cn,m,hs,1⟩,⟨O,4,.slice sf m cf,m,bls fsl,1⟩] [] []:=by
          have h1:=k9;simp only[rN,rF,c5,a5]at h1;exact h1
         have e0:Hid (∀ W:World,(W.cell? ⟨P,2,none⟩=some (.slice (some ⟨fb,fo,none⟩) n fc)/\W.cell? ⟨fb,fo+q0,none⟩=some (.bool bq))->∀ (c:Nat) (X:Value),(W.setCell ⟨O,c,none⟩ X).cell? ⟨P,2,none⟩=some (.slice (some ⟨fb,fo,none⟩) n fc)/\(W.setCell ⟨O,c,none⟩ X).cell? ⟨fb,fo+q0,none⟩=some (.bool bq)):=Kh (fun W h c X =>
          ⟨by rw[World.cell?_setCell_far W ⟨O,c,none⟩ ⟨P,2,none⟩ X d7];exact h.1,by rw[World.cell?_setCell_far W ⟨O,c,none⟩ ⟨fb,fo+q0,none⟩ X m9];exact h.2⟩)
         have h0:Hid (∀ W rs ls,Many w5 (FB sf sn) W rs ls []->(W.cell? ⟨P,2,none⟩=some (.slice (some ⟨fb,fo,none⟩) n fc)/\W.cell? ⟨fb,fo+q0,none⟩=some (.bool bq))/\(W.cell? ⟨O,3,none⟩=some (.slice sn m cn)/\W.cell? ⟨O,2,none⟩=some (.slice sf m cf))):=Kh (fun W rs ls h=>by
          have k2:=a4.out.ge;have hb:=h.but.heap H1.out g2.out;rw[c5,a5]at hb;obtain⟨_,_,e2,e3⟩:=zF hb
          exact⟨⟨h.but.cell d2 (fun hf=>by have:=k2 _ hf;simp only at this;omega),h.but.cell cq (fun hf=>by have:=k2 _ hf;simp only at this;omega)⟩,e3,e2⟩)
         rw[c5,a5]at H1;have o6:Hid (m=i):=Kh hm;have o7:m<=4194304:=by omega
         clear k9 l0 j4 k8 g7 b9 h5 k5 e7 e1 hm c5 a5 cl ch e5 d2 cq;go_upto_region 23 with fail;refine wp_region_noPanic ?_;refine wQ (G:=tZ 15 (fun W=>W.cell? ⟨P,2,none⟩=some (.slice (some ⟨fb,fo,none⟩) n fc)/\W.cell? ⟨fb,fo+q0,none⟩=some (.bool bq)) (fun W=>W.cell? ⟨O,3,none⟩=some (.slice sn m cn)/\W.cell? ⟨O,2,none⟩=some (.slice sf m cf))) (by kernel_rfl) ?_;rw[<- n2.out];refine zW 0 ⟨(h0.out _ _ _ hM).1,fun _=>(h0.out _ _ _ hM).2⟩ ?_;refine dD 1 ⟨(h0.out _ _ _ hM).1,fun _=>(h0.out _ _ _ hM).2⟩ ?_;refine zW 2 ⟨(h0.out _ _ _ hM).1,fun _=>(h0.out _ _ _ hM).2⟩ ?_;refine zW 5 ⟨(h0.out _ _ _ hM).1,fun _=>(h0.out _ _ _ hM).2⟩ ?_;refine dD 6 ⟨(h0.out _ _ _ hM).1,fun _=>(h0.out _ _ _ hM).2⟩ ?_;refine zW 7 ⟨(h0.out _ _ _ hM).1,fun _=>(h0.out _ _ _ hM).2⟩ ?_;refine zW 8 ⟨(h0.out _ _ _ hM).1,fun _=>(h0.out _ _ _ hM).2⟩ ?_;refine zW 9 ⟨(h0.out _ _ _ hM).1,fun _=>(h0.out _ _ _ hM).2⟩ ?_;refine zW 10 ⟨(h0.out _ _ _ hM).1,fun _=>(h0.out _ _ _ hM).2⟩ ?_;refine zW 11 ⟨(h0.out _ _ _ hM).1,fun _=>(h0.out _ _ _ hM).2⟩ ?_;refine twoG (i:=3) (j:=12) (by kernel_rfl) rfl rfl (fun K hK=>?_) (fun K hK=>?_)
         ·skip
          go_simp;refine hK.out _ _ ⟨(h0.out _ _ _ (hM.alloc _)).1,fun _=>(h0.out _ _ _ (hM.alloc _)).2⟩ ?_;clear hK K
          try simp only[Act.put,sPa,sPb,sPc]
          refine twoG (i:=4) (j:=12) (by kernel_rfl) rfl rfl (fun K hK=>?_) (fun K hK=>?_)
          ·skip
           refine vV rfl (.tmp 74) (.tmp 76) 40 rfl uP 0 _ _ rfl ⟨_,_,_,_,_,(hM.alloc _),_,rfl,rfl,rfl,rfl,?g3,?g4,d5,_,_,_,List.Mem.head _,(by first|rfl|simp),rfl,?_⟩
           case g3=>(simp only[];unfold maxLen;omega)
           case g4=>(simp only[];omega)
           intro sa1 sc1 w1x a2;have H4:=a2.litcell (List.Mem.head _)
           try simp only[zJ]at H4
           refine hK.out _ _ ⟨(h0.out _ _ _ a2).1,fun _=>(h0.out _ _ _ a2).2⟩ ?_;clear hK K
           try simp only[Act.put,sPa,sPb,sPc]
           refine zW 14 ⟨(h0.out _ _ _ a2).1,fun _=>(h0.out _ _ _ a2).2⟩ ?_;refine oneG (i:=12) (by kernel_rfl) rfl (fun K hK=>?_);go_simp;refine hK.out _ _ ⟨(h0.out _ _ _ (a2.alloc _)).1,fun _=>(h0.out _ _ _ (a2.alloc _)).2⟩ ?_;clear hK K
           try simp only[Act.put,sPa,sPb,sPc]
           refine oneG (i:=13) (by kernel_rfl) rfl (fun K hK=>?_);refine vV rfl (.tmp 79) (.tmp 85) 39 rfl xW 1 _ _ rfl ⟨_,_,_,_,_,(a2.alloc _),_,rfl,rfl,rfl,rfl,?g3,?g4,d5,_,_,_,List.Mem.head _,(by first|rfl|simp),rfl,?_⟩
           case g3=>(simp only[];unfold maxLen;omega)
           case g4=>(simp only[];omega)
           intro sa2 sc2 w2x b7;have H4:=b7.litcell (List.Mem.head _)
           try simp only[zJ]at H4
           have a0:=b7.litcell (List.Mem.tail _ (List.Mem.head _))
           try simp only[zJ]at a0
           refine hK.out _ _ ⟨(h0.out _ _ _ b7).1,fun _=>(h0.out _ _ _ b7).2⟩ ?_;clear hK K
           try simp only[Act.put,sPa,sPb,sPc]
           refine oneG (i:=15) (by kernel_rfl) rfl (fun K hK=>?_);have h8:=b7.but.heap H1.out g2.out;have cb3:=zH h8 3 (by simp);have cb2:=zH h8 2 (by simp);have fb3:=zE h8 3;have fb2:=zE h8 2;simp only[List.getElem_toArray,List.getElem_cons_zero,List.getElem_cons_succ]at cb3 cb2;go_simp;have h6:=heap_setCell_same _ O 3 _ _ (.slice sa1 (m+1) sc1) h8;have cb22:=zH h6 2 (by simp);have fb22:=zE h6 2;simp at cb22;have H3:=e0.out _ (h0.out _ _ _ b7).1 3 (.slice sa1 (m+1) sc1);refine hK.out _ _ ⟨H3,fun h=>by simp at h⟩ ?_;clear hK K
           try simp only[Act.put,sPa,sPb,sPc]
           refine zW 16 ⟨H3,fun h=>by simp at h⟩ ?_;refine oneG (i:=17) (by kernel_rfl) rfl (fun K hK=>?_);go_simp;have h9:=e0.out _ H3 2 (.slice sa2 (m+1) sc2);refine hK.out _ _ ⟨h9,fun h=>by simp at h⟩ ?_;clear hK K
           try simp only[Act.put,sPa,sPb,sPc]
           refine rH (by kernel_rfl) ?_ _;refine NoPanic.normal ?_;obtain⟨H5,b0⟩:=a4.out.push (b:=bq) (row:=xS l (d.next.getD q0 [])) c7.out b7 c8.out rfl;have H7:=Kh H5;have f4:=Kh (b0 w4 i9.out (by have:=c9.out;omega));clear H5 b0 cb3 cb2 fb3 fb2 h8 h6 cb22 fb22 H3 h9 b7
           (try clear a2)
           go_wp2;go_roundg (l.length - (i+1))
           case measure=>have:=g5.out;omega
           case rel=>exact⟨i+1,_,_,_,_,_,by omega,by go_num,H7.out.congr d9.out f2.out,f4.out⟩
          ·skip
           go_simp;refine hK.out _ _ ⟨(h0.out _ _ _ ((hM.alloc _).alloc _)).1,fun _=>(h0.out _ _ _ ((hM.alloc _).alloc _)).2⟩ ?_;clear hK K
           try simp only[Act.put,sPa,sPb,sPc]
           refine oneG (i:=4) (by kernel_rfl) rfl (fun K hK=>?_);refine vV rfl (.tmp 74) (.tmp 76) 40 rfl uP 0 _ _ rfl ⟨_,_,_,_,_,((hM.alloc _).alloc _),_,rfl,rfl,rfl,rfl,?g3,?g4,d5,_,_,_,List.Mem.tail _ (List.Mem.head _),(by first|rfl|simp),rfl,?_⟩
           case g3=>(simp only[];unfold maxLen;omega)
           case g4=>(simp only[];omega)
           intro sa3 sc3 w3x b6;have H4:=b6.litcell (List.Mem.head _)
           try simp only[zJ]at H4
           have a0:=b6.litcell (List.Mem.tail _ (List.Mem.head _))
           try simp only[zJ]at a0
           refine hK.out _ _ ⟨(h0.out _ _ _ b6).1,fun _=>(h0.out _ _ _ b6).2⟩ ?_;clear hK K
           try simp only[Act.put,sPa,sPb,sPc]
           refine zW 14 ⟨(h0.out _ _ _ b6).1,fun _=>(h0.out _ _ _ b6).2⟩ ?_;refine oneG (i:=13) (by kernel_rfl) rfl (fun K hK=>?_);refine vV rfl (.tmp 79) (.tmp 85) 39 rfl xW 1 _ _ rfl ⟨_,_,_,_,_,b6,_,rfl,rfl,rfl,rfl,?g3,?g4,d5,_,_,_,List.Mem.head _,(by first|rfl|simp),rfl,?_⟩
           case g3=>(simp only[];unfold maxLen;omega)
           case g4=>(simp only[];omega)
           intro sa4 sc4 w4x b5;have H4:=b5.litcell (List.Mem.head _)
           try simp only[zJ]at H4
           have a0:=b5.litcell (List.Mem.tail _ (List.Mem.head _))
           try simp only[zJ]at a0
           refine hK.out _ _ ⟨(h0.out _ _ _ b5).1,fun _=>(h0.out _ _ _ b5).2⟩ ?_;clear hK K
           try simp only[Act.put,sPa,sPb,sPc]
           refine oneG (i:=15) (by kernel_rfl) rfl (fun K hK=>?_);have h8:=b5.but.heap H1.out g2.out;have cb3:=zH h8 3 (by simp);have cb2:=zH h8 2 (by simp);have fb3:=zE h8 3;have fb2:=zE h8 2;simp only[List.getElem_toArray,List.getElem_cons_zero,List.getElem_cons_succ]at cb3 cb2;go_simp;have h6:=heap_setCell_same _ O 3 _ _ (.slice sa3 (m+1) sc3) h8;have cb22:=zH h6 2 (by simp);have fb22:=zE h6 2;simp at cb22;have H3:=e0.out _ (h0.out _ _ _ b5).1 3 (.slice sa3 (m+1) sc3);refine hK.out _ _ ⟨H3,fun h=>by simp at h⟩ ?_;clear hK K
           try simp only[Act.put,sPa,sPb,sPc]
           refine zW 16 ⟨H3,fun h=>by simp at h⟩ ?_;refine oneG (i:=17) (by kernel_rfl) rfl (fun K hK=>?_);go_simp;have h9:=e0.out _ H3 2 (.slice sa4 (m+1) sc4);refine hK.out _ _ ⟨h9,fun h=>by simp at h⟩ ?_;clear hK K
           try simp only[Act.put,sPa,sPb,sPc]
           refine rH (by kernel_rfl) ?_ _;refine NoPanic.normal ?_;obtain⟨H5,b0⟩:=a4.out.push (b:=bq) (row:=xS l (d.next.getD q0 [])) c7.out b5 c8.out rfl;have H7:=Kh H5;have f4:=Kh (b0 w4 i9.out (by have:=c9.out;omega));clear H5 b0 cb3 cb2 fb3 fb2 h8 h6 cb22 fb22 H3 h9 b5
           (try clear b6)
           go_wp2;go_roundg (l.length - (i+1))
           case measure=>have:=g5.out;omega
           case rel=>exact⟨i+1,_,_,_,_,_,by omega,by go_num,H7.out.congr d9.out f2.out,f4.out⟩
         ·skip
          go_simp;refine hK.out _ _ ⟨(h0.out _ _ _ (hM.alloc _)).1,fun _=>(h0.out _ _ _ (hM.alloc _)).2⟩ ?_;clear hK K
          try simp only[Act.put,sPa,sPb,sPc]
          refine oneG (i:=3) (by kernel_rfl) rfl (fun K hK=>?_);go_simp;refine hK.out _ _ ⟨(h0.out _ _ _ ((hM.alloc _).alloc _)).1,fun _=>(h0.out _ _ _ ((hM.alloc _).alloc _)).2⟩ ?_;clear hK K
          try simp only[Act.put,sPa,sPb,sPc]
          refine oneG (i:=4) (by kernel_rfl) rfl (fun K hK=>?_);refine vV rfl (.tmp 74) (.tmp 76) 40 rfl uP 0 _ _ rfl ⟨_,_,_,_,_,((hM.alloc _).alloc _),_,rfl,rfl,rfl,rfl,?g3,?g4,d5,_,_,_,List.Mem.head _,(by first|rfl|simp),rfl,?_⟩
          case g3=>(simp only[];unfold maxLen;omega)
          case g4=>(simp only[];omega)
          intro sa5 sc5 w5x b4;have H4:=b4.litcell (List.Mem.head _)
          try simp only[zJ]at H4
          have a0:=b4.litcell (List.Mem.tail _ (List.Mem.head _))
          try simp only[zJ]at a0
          refine hK.out _ _ ⟨(h0.out _ _ _ b4).1,fun _=>(h0.out _ _ _ b4).2⟩ ?_;clear hK K
          try simp only[Act.put,sPa,sPb,sPc]
          refine zW 14 ⟨(h0.out _ _ _ b4).1,fun _=>(h0.out _ _ _ b4).2⟩ ?_;refine oneG (i:=13) (by kernel_rfl) rfl (fun K hK=>?_);refine vV rfl (.tmp 79) (.tmp 85) 39 rfl xW 1 _ _ rfl ⟨_,_,_,_,_,b4,_,rfl,rfl,rfl,rfl,?g3,?g4,d5,_,_,_,List.Mem.tail _ (List.Mem.head _),(by first|rfl|simp),rfl,?_⟩
          case g3=>(simp only[];unfold maxLen;omega)
          case g4=>(simp only[];omega)
          intro sa6 sc6 w6x b3;have H4:=b3.litcell (List.Mem.head _)
          try simp only[zJ]at H4
          have a0:=b3.litcell (List.Mem.tail _ (List.Mem.head _))
          try simp only[zJ]at a0
          refine hK.out _ _ ⟨(h0.out _ _ _ b3).1,fun _=>(h0.out _ _ _ b3).2⟩ ?_;clear hK K
          try simp only[Act.put,sPa,sPb,sPc]
          refine oneG (i:=15) (by kernel_rfl) rfl (fun K hK=>?_);have h8:=b3.but.heap H1.out g2.out;have cb3:=zH h8 3 (by simp);have cb2:=zH h8 2 (by simp);have fb3:=zE h8 3;have fb2:=zE h8 2;simp only[List.getElem_toArray,List.getElem_cons_zero,List.getElem_cons_succ]at cb3 cb2;go_simp;have h6:=heap_setCell_same _ O 3 _ _ (.slice sa5 (m+1) sc5) h8;have cb22:=zH h6 2 (by simp);have fb22:=zE h6 2;simp at cb22;have H3:=e0.out _ (h0.out _ _ _ b3).1 3 (.slice sa5 (m+1) sc5);refine hK.out _ _ ⟨H3,fun h=>by simp at h⟩ ?_;clear hK K
          try simp only[Act.put,sPa,sPb,sPc]
          refine zW 16 ⟨H3,fun h=>by simp at h⟩ ?_;refine oneG (i:=17) (by kernel_rfl) rfl (fun K hK=>?_);go_simp;have h9:=e0.out _ H3 2 (.slice sa6 (m+1) sc6);refine hK.out _ _ ⟨h9,fun h=>by simp at h⟩ ?_;clear hK K
          try simp only[Act.put,sPa,sPb,sPc]
          refine rH (by kernel_rfl) ?_ _;refine NoPanic.normal ?_;obtain⟨H5,b0⟩:=a4.out.push (b:=bq) (row:=xS l (d.next.getD q0 [])) c7.out b3 c8.out rfl;have H7:=Kh H5;have f4:=Kh (b0 w4 i9.out (by have:=c9.out;omega));clear H5 b0 cb3 cb2 fb3 fb2 h8 h6 cb22 fb22 H3 h9 b3
          (try clear b4)
          go_wp2;go_roundg (l.length - (i+1))
          case measure=>have:=g5.out;omega
          case rel=>exact⟨i+1,_,_,_,_,_,by omega,by go_num,H7.out.congr d9.out f2.out,f4.out⟩
      ·have k0:i=l.length:=by have:=g5.out;omega
       have l5:Hid (oR d l i=(xT d k).final/\oP d l i=(xT d k).next):=Kh (by
        rw[k0];simp only[oR,oP,List.take_length];rw[HL.out]
        exact⟨rfl,rfl⟩)
       have d7:O≠P+1:=(by omega);have H8:=zB (zB (zB n6.out d8.out (by simp)) H0.out (by simp)) h5 (fun e=>d7 (Oj e));have r0:=zH H8 0 (by simp);have r1:=zH H8 1 (by simp);have r2:=zH H8 2 (by simp);have r3:=zH H8 3 (by simp);have q0:=zE H8 0;have q1:=zE H8 1;have q2:=zE H8 2;have q3:=zE H8 3;simp only[List.getElem_toArray,List.getElem_cons_zero,List.getElem_cons_succ]at r0 r1 r2 r3;have f3:=Kh H8;obtain⟨o0,o1,o2,o3⟩:=zF H5.box;clear H5 h5 H8 k0;go_wp2;refine bodyPost_ret (v:=.tuple #[.agg #[.int .i64 (k:Int),.int .i64 0,.slice sf (oR d l i).length cf,.slice sn (oP d l i).length cn],.slice (some ⟨G,0,none⟩) n n]) (by simp[results,Try.results82,go_sem,r0,r1,r2,r3]) rfl ?_;obtain⟨m1,f9⟩:=uF f3.out (.int .i64 (k:Int)) (.int .i64 0) (.slice sf (oR d l i).length cf) (.slice sn (oP d l i).length cn);have i2:=f6.out.far f9 f3.out (fun e=>d7 e.symm);refine⟨_,_,rfl,?_,?_⟩
       ·have he:xT d k=⟨(k:Int),0,oR d l i,oP d l i⟩:=by
         rw[l5.out.1,l5.out.2];have:=HD.out.hk;simp only[xT,this]
        rw[he];exact⟨O,hs,sf,cf,sn,cn,rfl,by have h1:=H0.out.size;have h2:=c9.out;have h3:=i5.out;omega,i2⟩
       ·refine zA (zD n4.out (zD d8.out (zD H0.out (zA (zL _ _) H6.out (fun x e=>by have:=Oj e;have:=c9.out;omega))))) f9 (fun x e=>by have:=Oj e;have:=i5.out;omega)
def PTrimOk (w:World)(d:DfaV)(n k:Nat)(e:Ending)(w':World):Prop :=
 ∃ v G,e=.returned (.tuple #[v,.slice (some ⟨G,0,none⟩) n n])/\pT w w' v (xT d k)/\w.heap.size<=G/\Arr w' G 3 (ints (tL n (zV d k)))/\w.grownBy w' none
theorem qAP (B:Nat)(w:World)(v:Value)(d:DfaV)(n k:Nat)(hB:B<=w.heap.size)(h:uW B w v d)(hd:VD d n k)(h5:n<=512):Calls Try.prog 110 #[v] w (PTrimOk w d n k):=by
 have H0:=h;obtain⟨fb,fo,fc,b,off,cap,RB,RO,RC,rfl,H5⟩:=h.at hd;have hn:=hd.hn;have j8:=hd.n1;have k2:=hd.k6;have k3:=hd.k1;have k4:=H5.fcap.1;have H8:=H5.fcap.2;have k5:=H5.cap.1;have H9:=H5.cap.2;have f9:fc<=9223372036854775807:=by unfold maxLen at H8;omega
 have f8:cap<=9223372036854775807:=by unfold maxLen at H9;omega
 obtain⟨S,hS⟩:∃ S,S=st0 d:=⟨_,rfl⟩;have g9:=Kh hS;have d6:dAgg k (st0 d) fb fo fc b off cap n=.agg #[.int .i64 (k:Int),.int .i64 (S:Int),.slice (some ⟨fb,fo,none⟩) n fc,.slice (some ⟨b,off,none⟩) n cap]:=by rw[hS];rfl
 rw[d6]at H0 ⊢;obtain⟨a1,b4,H6,d4⟩:=nD w #[.int .i64 (k:Int),.int .i64 (S:Int),.slice (some ⟨fb,fo,none⟩) n fc,.slice (some ⟨b,off,none⟩) n cap] #[.int .i64 0,.int .i64 0,.slice none 0 0,.slice none 0 0] 42;obtain⟨wA,c4⟩:∃ wA,wA=(w.alloc (.cells #[.int .i64 (k:Int),.int .i64 (S:Int),.slice (some ⟨fb,fo,none⟩) n fc,.slice (some ⟨b,off,none⟩) n cap] 42)).alloc (.cells #[.int .i64 0,.int .i64 0,.slice none 0 0,.slice none 0 0] 42):=⟨_,rfl⟩;rw[<- c4]at a1 b4 H6 d4;obtain⟨c0,c1,c2,c3⟩:=zF a1;obtain⟨P,hP⟩:∃ P,P=w.heap.size:=⟨_,rfl⟩;obtain⟨Q,hQ⟩:∃ Q,Q=w.heap.size+1:=⟨_,rfl⟩;have i2:=Kh hP;have i0:Hid (Q=P+1):=Kh (by omega);have l2:P<Q:=by omega
 have k8:Q<wA.heap.size:=by omega
 have l1:w.heap.size<=P:=by omega
 have g4:B<=wA.heap.size:=by omega
 rw[<- hQ]at b4;rw[<- hP]at a1 c0 c1 c2 c3 hB;have j2:=Kh a1;have j1:=Kh b4;have i6:=Kh H6;have g5:=Kh c4;have j3:=Kh (H5.kept H6 (by simp));have HN:=Kh hn;have HD:=Kh hd;have e7:=Kh (tQ B wA _ d g4 (H0.kept H6 (by simp)));have g7:=Kh (gE hd h5);clear a1 b4 H6 c4 H5 hn hd h H0 d6 H8 H9 hS d4 hP hQ;go_enter Try.func110,Try.ntmps110;go_upto_region 1 with fail;rw[<- g5.out,<- i2.out,<- i0.out];go_wp2_with fail;refine e7.out.mono ?_;rintro e w1 ⟨rfl,H4⟩;rw[g7.out];have j7:=H4.size;have i7:=Kh H4;have H3:=Kh (zB j2.out H4 (by simp));have c9:=Kh (zB j1.out H4 (by simp));have e9:=Kh (explore_any B w1 P d n k S fb fo fc b off cap RB RO RC g9.out h5 ⟨H3.out,j3.out.kept H4 (by simp)⟩);obtain⟨d0,d1,d2,d3⟩:=zF H3.out;clear H4 e7 c0 c1 c2 c3;go_wp2_with fail;refine e9.out.mono ?_;rintro e w2 ⟨v2,sa,sc,rfl,⟨o,hs,sf,cf,sn,cn,rfl,ho,H1⟩,h3,b9⟩;clear e9 d0 d1 d2 d3;obtain⟨h6,g0⟩:=xQ HD.out;obtain⟨l,hl⟩:∃ l,l=zV d k:=⟨_,rfl⟩;have HL:=Kh hl;rw[<- hl]at h3 h6 g0 ⊢;have g1:=h6.hd.1;obtain⟨gl,rfl,k0,j9,a2⟩:=yW h3 g1;obtain⟨m,hm⟩:∃ m,m=xT d k:=⟨_,rfl⟩;rw[<- hm]at H1;have HM:=Kh hm;have a6:(xT d k).start=0:=rfl;have b0:(xT d k).letters=k:=HD.out.hk;rw[<- hm]at a6 b0;rw[<- hm,a6,b0];have j4:=Kh a2;have c8:=Kh b9;have a4:=Kh h6;have i9:=Kh H1;have i4:=Kh a6;have i5:=Kh b0;have j6:=b9.size;obtain⟨FL,c6⟩:∃ FL,FL=m.final.length:=⟨_,rfl⟩;obtain⟨NL,c5⟩:∃ NL,NL=m.next.length:=⟨_,rfl⟩;rw[<- c6,<- c5];have i8:=Kh c6;have i3:=Kh c5;clear hl h3 a2 b9 h6 hm a6 b0 H1 c6 c5;obtain⟨w3,b6⟩:∃ w3,w3=w2.alloc (.cells #[.int .i64 (k:Int),.int .i64 0,.slice sf FL cf,.slice sn NL cn] 42):=⟨_,rfl⟩;obtain⟨T,hT⟩:∃ T,T=w2.heap.size:=⟨_,rfl⟩;have H7:=Ga w2 (.cells #[.int .i64 (k:Int),.int .i64 0,.slice sf FL cf,.slice sn NL cn] 42) none;have a0:=heap_alloc_new w2 (.cells #[.int .i64 (k:Int),.int .i64 0,.slice sf FL cf,.slice sn NL cn] 42);rw[<- b6]at H7 a0;rw[<- hT]at a0;have b5:=Kh H7;have j0:=Kh a0;have g6:=Kh b6;have g8:=Kh hT;have j5:=H7.size;have k7:=zK a0;have k9:Q<T:=by omega
 have l0:P+1<w3.heap.size:=by omega
 obtain⟨d0,d1,d2,d3⟩:=zF (zB (zB H3.out c8.out (by simp)) H7 (by simp));clear H7 a0 b6 hT;go_upto_region 4 with fail;rw[<- g6.out,<- g8.out];go_wp2_with (first|(at_make;refine lO rfl _ _ _ rfl yU rfl .i64 .i64 _ _ n rfl rfl rfl rfl ?b1 ?b2 ?_;(case b1=>omega);(case b2=>(unfold maxLen;omega));intro w4 h0 e5 b8)|fail);obtain⟨G,hG⟩:∃ G,G=w3.heap.size:=⟨_,rfl⟩;rw[<- hG]at h0 b8 ⊢;have f5:=Kh h0;have e8:=Kh e5;have c7:=Kh hG;have l3:T<G:=by omega
 clear h0 e5 hG d0 d1 d2 d3
 go_loopg [8,32] n (fun gh a7 i wr=>∃ q:Nat,gh+q=n/\i=.int .i64 q/\Arr wr G 3 (ints (jT n q))/\w3.grownBy wr none)
 case atStart=>exact⟨0,rfl,rfl,by simpa [jT,pC] using f5.out,e8.out⟩
 case round =>
  clear f5 e8;obtain⟨q,hg,rfl,h0,h4⟩:=hrel;have HG:=Kh hg;have HA:=Kh h0;have a3:=Kh h4;clear hg;by_cases hq:q<n
  ·have f7:(q:Int)<n:=by omega
   have cgk:=h0.int q (by rw[qS (by omega)];exact hq);have fgk:=h0.frozen q;have HS:=Kh (qBV hq);clear h0 h4;go_wp2;go_roundg (n - (q+1))
   case measure=>have:=HG.out;omega
   case rel =>
    refine⟨q+1,by omega,by go_num,?_,zA a3.out (zC wr ⟨G,q,none⟩ _) (fun q e=>by have h7:G=q:=Oj e;have:=c7.out;omega)⟩;rw[<- HS.out];exact HA.out.int_set q (by rw[qS (by omega)];exact hq) (-1)
  ·have d7:q=n:=by have:=HG.out;omega
   have HF:Hid (jT n q=tL n (l.take 0)):=Kh (by rw[d7,List.take_zero,cM];simp[jT]);rw[HF.out]at HA;clear d7 h0 h4 HG;obtain⟨w5,rfl⟩:∃ w5:World,w5=wr:=⟨_,rfl⟩;go_wp2
   go_loopg [9,10,41] l.length (fun gh a8 a9 i wr=>∃ q:Nat,gh+q=l.length/\i=.int .i64 q/\Arr wr G 3 (ints (tL n (l.take q)))/\w3.grownBy wr none)
   case atStart=>exact⟨0,rfl,rfl,HA.out,a3.out⟩
   case round =>
    clear HA a3 HF;obtain⟨q,hg,rfl,h0,h4⟩:=hrel;have HG:=Kh hg;have HA:=Kh h0;have a3:=Kh h4;clear hg;by_cases hq:q<l.length
    ·have f7:(q:Int)<l.length:=by omega
     have cl:=((j4.out.kept b5.out (by simp)).kept h4 (by simp)).nat q hq;have b7:l.getD q 0<n:=a4.out.lt _ (by rw[zG hq];exact List.getElem_mem _);have a5:l.take (q+1)=l.take q++[l.getD q 0]:=zR hq
     have h9:l.getD q 0 ∉ l.take q:=by
      have h1:=a4.out.nd;have h2:(l.take (q+1)).Nodup:=h1.sublist (List.take_sublist _ _);rw[a5,List.nodup_append]at h2;exact fun hm=>h2.2.2 _ hm _ (by simp) rfl
     obtain⟨s,hs⟩:∃ s,s=l.getD q 0:=⟨_,rfl⟩;rw[<- hs]at cl b7 a5 h9;have f6:(s:Int)<n:=(by omega);have cgk:=h0.int s (by rw[wW];exact b7);have fgk:=h0.frozen s
     have HS:Hid ((tL n (l.take q)).set s (q:Int)=tL n (l.take (q+1))):=Kh (by
      have:=cL (n:=n) h9;rw[List.length_take,Nat.min_eq_left (by omega)]at this
      rw[this,a5])
     clear h0 h4 a5 h9 hs;go_wp2;go_roundg (l.length - (q+1))
     case measure=>have:=HG.out;omega
     case rel =>
      refine⟨q+1,by omega,by go_num,?_,zA a3.out (zC wr ⟨G,s,none⟩ _) (fun q e=>by have h7:G=q:=Oj e;have:=c7.out;omega)⟩;rw[<- HS.out];exact HA.out.int_set s (by rw[wW];exact b7) (q:Int)
    ·have d8:q=l.length:=by have:=HG.out;omega
     have d9:l.take q=l:=by rw[d8];exact List.take_length
     rw[d9]at HA h0;have i1:=Kh h0;have h8:=Kh h4;clear d8 d9 h0 HA HG h4;obtain⟨e0,e1,e2,e3⟩:=zF (zB j0.out h8.out (by simp));have H2:=zB (zB (zB c9.out c8.out (by simp)) b5.out (by simp)) h8.out (by simp);obtain⟨q0,q1,q2,q3⟩:=zF H2;have f0:=zE H2 0;have f1:=zE H2 1;have f2:=zE H2 2;have f3:=zE H2 3;have f4:=Kh H2;clear H2;go_wp2;obtain⟨e6,b3⟩:=uF f4.out (.int .i64 (k:Int)) (.int .i64 0) (.slice sf FL cf) (.slice sn NL cn);obtain⟨wz,d5⟩:∃ wz,wz=(((wr.setCell ⟨Q,0,none⟩ (.int .i64 (k:Int))).setCell ⟨Q,1,none⟩ (.int .i64 0)).setCell ⟨Q,2,none⟩ (.slice sf FL cf)).setCell ⟨Q,3,none⟩ (.slice sn NL cn):=⟨_,rfl⟩;rw[<- d5]at e6 b3 ⊢;clear d5;obtain⟨r0,r1,r2,r3⟩:=zF e6;clear e0 e1 e2 e3 q0 q1 q2 q3 f0 f1 f2 f3;refine bodyPost_ret (v:=.tuple #[.agg #[.int .i64 (k:Int),.int .i64 0,.slice sf FL cf,.slice sn NL cn],.slice (some ⟨G,0,none⟩) n n]) (by simp[results,Try.results110,go_sem,r0,r1,r2,r3]) rfl ?_;have g2:w.grownBy wz none:=zA (zA (zA (zA (zA i6.out i7.out (by simp)) c8.out (by simp)) b5.out (by simp)) h8.out (by simp)) b3 (fun k e=>by have h7:Q=k:=Oj e;omega);have g3:=((i9.out.grow b5.out).grow h8.out).far b3 f4.out (by omega);have e4:xT d k=m:=HM.out.symm;refine⟨_,G,rfl,⟨o,hs,sf,cf,sn,cn,?_,by omega,by rw[e4];exact g3⟩,by have:=c7.out;omega,?_,g2⟩
     ·rw[e4,i4.out,i5.out,i8.out,i3.out]
     ·rw[<- HL.out]
      exact i1.out.kept b3 (fun e=>by have h7:Q=G:=Oj e;omega)
end Go.Proofs.Ytjfdomfendbhfaa
namespace Go.Proofs.Ytjfdomfendbhfaa
def acc (d:DfaV)(q:Nat)(w:List Nat):Bool:=d.final.getD (run d q w) false
theorem finB_inj {a b:Bool}(h:finB a=finB b):a=b:=by cases a<;>cases b<;>simp[finB]at h<;>rfl
section
variable {d:DfaV} {n k:Nat}
theorem fB (hd:VD d n k){q q':Nat}(hq:q<n)(hq':q'<n):(kM d).getD q 0=(kM d).getD q' 0 ↔ d.final.getD q false=d.final.getD q' false:=by
 have hn:=hd.hn;rw[kM,oG (by rw[List.length_map];omega) (by rw[List.length_map];omega),List.getElem_map,List.getElem_map,<- zG (d:=false),<- zG (d:=false)];exact⟨finB_inj,fun h=>by rw[h]⟩
theorem eK (hd:VD d n k):∀ m {q q':Nat},q<n->q'<n->(yP d k m).getD q 0=(yP d k m).getD q' 0->d.final.getD q false=d.final.getD q' false
 | 0,q,q',hq,hq',h=>(fB hd hq hq').1 h
 | m+1,q,q',hq,hq',h=>eK hd m hq hq' ((rU hd (by rw[yS,hd.hn]) (by rw[<- hd.hn];exact qET d k m) hq hq' k (Nat.le_refl _)).1 h).1
theorem eJ (hd:VD d n k):∀ m {q q':Nat},q<n->q'<n->(yP d k m).getD q 0≠(yP d k m).getD q' 0->∃ w,yJ k w/\acc d q w≠acc d q' w
 | 0,q,q',hq,hq',h=>⟨[],fun a ha=>by simp at ha,fun e=>h ((fB hd hq hq').2 e)⟩
 | m+1,q,q',hq,hq',h=>by
  by_cases h1:(yP d k m).getD q 0=(yP d k m).getD q' 0
  ·have hx:¬ ∀ a,a<k->(yP d k m).getD (nx d q a) 0=(yP d k m).getD (nx d q' a) 0:=fun ha=>h ((rU hd (by rw[yS,hd.hn]) (by rw[<- hd.hn];exact qET d k m) hq hq' k (Nat.le_refl _)).2 ⟨h1,ha⟩)
   obtain⟨a,ha⟩:=Classical.not_forall.1 hx
   obtain⟨ha,hne⟩:=Classical.not_imp.1 ha
   obtain⟨w,hw,e⟩:=eJ hd m (nO hd hq ha) (nO hd hq' ha) hne
   exact⟨a::w,fun b hb=>by
    rcases List.mem_cons.1 hb with rfl|hb
    ·exact ha
    ·exact hw b hb,e⟩
  ·exact eJ hd m hq hq' h1
theorem bY (d:DfaV)(p:List Nat):st0 (uT d p)=p.getD (st0 d) 0:=by simp[st0,uT]
theorem kH (hd:VD d n k){q:Nat}(hq:q<n){w:List Nat}(hw:yJ k w):acc (uT d (yO d k)) ((yO d k).getD q 0) w=acc d q w:=by
 have hl:(yO d k).length=n:=by rw[wN,hd.hn]
 have hN:=tY d k;have hr:=qDJ hd w hq hw;unfold acc;rw[qDN hd hl hN (classesD_fix hd) w hq hw];have hc:=rV hN (show run d q w<(yO d k).length by omega);have hg:=oA hN hc;show ((reps (yO d k)).map fun q=>d.final.getD q false).getD _ false=_;rw[tB (x:=0) (by rw[rT hN];exact hc)];exact eK hd _ (by omega) hr hg.1
theorem qDO (hd:VD d n k){c c':Nat}(hc:c<cls (yO d k))(hc':c'<cls (yO d k))(h:∀ w,yJ k w->acc (uT d (yO d k)) c w=acc (uT d (yO d k)) c' w):c=c':=by
 have hl:(yO d k).length=n:=by rw[wN,hd.hn]
 have hN:=tY d k;obtain⟨h1,h2⟩:=oA hN hc;obtain⟨h3,h4⟩:=oA hN hc';rw[hl]at h2 h4;rcases Decidable.em (c=c') with e|e
 ·exact e
 exfalso;obtain⟨w,hw,h0⟩:=eJ hd d.final.length h2 h4 (by rw[show yP d k d.final.length=yO d k from rfl,h1,h3];exact e);have a1:=kH hd h2 hw;have a2:=kH hd h4 hw;rw[h1]at a1;rw[h3]at a2;exact h0 (a1.symm.trans ((h w hw).trans a2))
theorem qDC (hd:VD d n k){w:List Nat}(hw:yJ k w):acc (xT d k) 0 w=acc d (st0 d) w:=by
 have hA:=(xQ hd).1;have hr:=qDJ (lI hd) w (lI hd).n1 hw;unfold acc;rw[jK hd hr,qDB hd w hA.hd.1 hw,hA.hd.2]
theorem qGC (hd:VD d n k){w:List Nat}(hw:yJ k w):acc (minD d k) 0 w=acc d (st0 d) w:=by
 rw[show acc (minD d k) 0 w=acc (uT d (yO d k)) (st0 (uT d (yO d k))) w from qDC (kI hd) hw,bY];exact kH hd (oT hd) hw
end
inductive Side (R:Nat->Nat->Prop):List Nat->List Nat->Prop
 | nil:Side R [] []
 | snoc {l l':List Nat} {q q':Nat}:Side R l l'->R q q'->Side R (l++[q]) (l'++[q'])
theorem Side.len {R:Nat->Nat->Prop}{l l':List Nat}(h:Side R l l'):l.length=l'.length:=by
 induction h with
 | nil=>rfl
 | snoc _ _ ih=>simp[ih]
theorem Side.get {R:Nat->Nat->Prop}{l l':List Nat}(h:Side R l l'):∀ i,i<l.length->R (l.getD i 0) (l'.getD i 0):=by
 induction h with
 | nil=>intro i hi;simp at hi
 | @snoc l l' q q' hs hr ih =>
  intro i hi;have hl:=hs.len;simp at hi;by_cases e:i<l.length
  ·rw[rY (List.prefix_append _ _) e,rY (List.prefix_append _ _) (by omega)];exact ih i e
  ·have e1:i=l.length:=by omega
   subst e1;have a1:(l++[q]).getD l.length 0=q:=by simp[List.getD]
   have a2:(l'++[q']).getD l.length 0=q':=by rw[hl];simp[List.getD]
   rw[a1,a2];exact hr
structure One (R:Nat->Nat->Prop):Prop where
 l:∀ {q q' r'},R q q'->R q r'->q'=r'
 r:∀ {q r q'},R q q'->R r q'->q=r
theorem Side.mem {R:Nat->Nat->Prop}(hR:One R){l l':List Nat}(h:Side R l l'){q q':Nat}(hq:R q q'):q∈l ↔ q'∈l':=by
 have hl:=h.len;constructor
 ·intro hm
  obtain⟨i,hi,rfl⟩:=List.getElem_of_mem hm;have:=h.get i hi;rw[zG hi]at this;rw[hR.l hq this,zG (by omega)];exact List.getElem_mem _
 ·intro hm
  obtain⟨i,hi,rfl⟩:=List.getElem_of_mem hm;have:=h.get i (by omega);rw[zG hi,zG (show i<l.length by omega)]at this;rw[hR.r hq this];exact List.getElem_mem _
theorem Side.add {R:Nat->Nat->Prop}(hR:One R){l l':List Nat}(h:Side R l l'){q q':Nat}(hq:R q q'):Side R (xP l q) (xP l' q'):=by
 unfold xP;by_cases e:q∈l
 ·rw[if_pos e,if_pos ((h.mem hR hq).1 e)];exact h
 ·rw[if_neg e,if_neg (fun e'=>e ((h.mem hR hq).2 e'))];exact .snoc h hq
theorem Side.idx {R:Nat->Nat->Prop}(hR:One R){l l':List Nat}(h:Side R l l')(hn:l.Nodup)(hn':l'.Nodup){q q':Nat}(hq:R q q')(hm:q∈l):l.idxOf q=l'.idxOf q':=by
 have hi:=List.idxOf_lt_length_of_mem hm;have hl:=h.len;have:=h.get _ hi;rw[zG hi,List.getElem_idxOf,zG (show l.idxOf q<l'.length by omega)]at this;have e:=hR.l hq this;have h0:=(h.mem hR hq).1 hm;have h1:=List.idxOf_lt_length_of_mem h0;have e2:l'[l'.idxOf q']=l'[l.idxOf q]'(by omega):=by rw[List.getElem_idxOf];exact e
 exact((List.getElem_inj hn').1 e2).symm
section
variable {x x':DfaV} {n n' k:Nat} {R:Nat->Nat->Prop}
theorem qDH (hR:One R)(hs:∀ {q q' a},R q q'->a<k->R (nx x q a) (nx x' q' a)){l l':List Nat}(h:Side R l l'){i:Nat}(hi:i<l.length):∀ a,a<=k->Side R (wO x l i a) (wO x' l' i a)
 | 0,_=>h
 | a+1,ha=>(qDH hR hs h hi a (by omega)).add hR (hs (h.get i hi) (by omega))
theorem qFM (hR:One R)(hs:∀ {q q' a},R q q'->a<k->R (nx x q a) (nx x' q' a)):∀ f i {l l':List Nat},Side R l l'->Side R (rI x k f i l) (rI x' k f i l')
 | 0,_,_,_,h=>h
 | f+1,i,l,l',h=>by
  rw[rI,rI,h.len]
  by_cases e:i<l'.length
  ·rw[if_pos e,if_pos e]
   exact qFM hR hs f (i+1) (qDH hR hs h (by rw[h.len];exact e) k (Nat.le_refl _))
  ·rw[if_neg e,if_neg e];exact h
end
theorem bN {d:DfaV}{n k:Nat}(hd:VD d n k):∀ f i l m,AccI d n k i l->n<=i+f->rI d k (f+m) i l=rI d k f i l
 | 0,i,l,m,h,hf=>by
  have hl:=mG h.nd h.lt
  rw[eV (f:=0+m) (by omega),rI]
 | f+1,i,l,m,h,hf=>by
  rw[show f+1+m=(f+m)+1 by omega,rI,rI]
  by_cases e:i<l.length
  ·rw[if_pos e,if_pos e]
   exact bN hd f (i+1) _ m (h.row hd e) (by omega)
  ·rw[if_neg e,if_neg e]
theorem eU {d:DfaV}{n k:Nat}(hd:VD d n k)(m:Nat):rI d k (n+m) 0 [st0 d]=zV d k:=by
 rw[zV,hd.hn];exact bN hd n 0 _ m (AccI.start hd) (by omega)
theorem trim_congr {x x':DfaV}{n n' k:Nat}(hx:VD x n k)(hx':VD x' n' k)(hr:∀ {c c'},c<n->c'<n->(∀ w,yJ k w->acc x c w=acc x c' w)->c=c')(hr':∀ {c c'},c<n'->c'<n'->(∀ w,yJ k w->acc x' c w=acc x' c' w)->c=c')(hl:∀ w,yJ k w->acc x (st0 x) w=acc x' (st0 x') w):xT x k=xT x' k:=by
 obtain⟨R,h8⟩:∃ R:Nat->Nat->Prop,∀ q q',R q q' ↔ q<n/\q'<n'/\∀ w,yJ k w->acc x q w=acc x' q' w:=⟨fun q q'=>q<n/\q'<n'/\∀ w,yJ k w->acc x q w=acc x' q' w,fun _ _=>Iff.rfl⟩
 have hR:One R:=by
  refine⟨fun {q q' r'} h1 h2=>?_,fun {q r q'} h1 h2=>?_⟩
  ·obtain⟨_,h3,h4⟩:=(h8 _ _).1 h1
   obtain⟨_,h5,h6⟩:=(h8 _ _).1 h2;exact hr' h3 h5 (fun w hw=>(h4 w hw).symm.trans (h6 w hw))
  ·obtain⟨h3,_,h4⟩:=(h8 _ _).1 h1
   obtain⟨h5,_,h6⟩:=(h8 _ _).1 h2;exact hr h3 h5 (fun w hw=>(h4 w hw).trans (h6 w hw).symm)
 have hs:∀ {q q' a},R q q'->a<k->R (nx x q a) (nx x' q' a):=fun {q q' a} h ha=>by
  obtain⟨h1,h2,h3⟩:=(h8 _ _).1 h
  exact(h8 _ _).2 ⟨nO hx h1 ha,nO hx' h2 ha,fun w hw=>h3 (a::w) (fun b hb=>by
   rcases List.mem_cons.1 hb with rfl|hb
   ·exact ha
   ·exact hw b hb)⟩
 have h0:R (st0 x) (st0 x'):=(h8 _ _).2 ⟨oT hx,oT hx',hl⟩
 have h7:Side R (zV x k) (zV x' k):=by
  have:=qFM (x:=x) (x':=x') (k:=k) hR hs (n+n') 0 (Side.snoc .nil h0);rw[List.nil_append,List.nil_append,eU hx n']at this;rw[Nat.add_comm n n',eU hx' n]at this;exact this
 have hA:=(xQ hx).1;have H2:=(xQ hx').1;have h9:=h7.len;have hm:∀ i,i<(zV x k).length->(zV x k).getD i 0∈zV x k:=fun i hi=>by rw[zG hi];exact List.getElem_mem _
 have key:∀ i,i<(zV x k).length->(xT x k).final.getD i false=(xT x' k).final.getD i false:=fun i hi=>by
  rw[jK hx hi,jK hx' (by omega)];obtain⟨_,_,h⟩:=(h8 _ _).1 (h7.get i hi);exact h [] (fun a ha=>by simp at ha)
 have hv:=lI hx;have H0:=lI hx';have e1:(xT x k).letters=(xT x' k).letters:=hx.hk.trans hx'.hk.symm
 have e3:(xT x k).final=(xT x' k).final:=by
  refine List.ext_getElem (by rw[hv.hn,H0.hn,h9]) fun i h1 h2=>?_;have:=key i (by rw[hv.hn]at h1;exact h1);rw[zG h1,zG h2]at this;exact this
 have e4:(xT x k).next=(xT x' k).next:=by
  refine List.ext_getElem (by rw[hv.nl,H0.nl,h9]) fun i h1 h2=>?_;have hi:i<(zV x k).length:=by rw[hv.nl]at h1;exact h1
  have r1:=hv.row i hi;have r2:=H0.row i (by omega);rw[zG h1]at r1;rw[zG h2]at r2;refine List.ext_getElem (by rw[r1,r2]) fun a h3 h4=>?_;have ha:a<k:=by omega
  have t1:=kC hx hi ha;have t2:=kC hx' (show i<(zV x' k).length by omega) ha;have hq:=h7.get i hi;have H3:=(xQ hx).2;have H1:=hA.cl i a (by omega) hi ha;rw[h7.idx hR hA.nd H2.nd (hs hq ha) H1,<- t2]at t1;unfold ent at t1;rw[zG h1,zG h2,zG h3,zG h4]at t1;exact t1
 show (⟨_,0,(xT x k).final,(xT x k).next⟩:DfaV)=⟨_,0,(xT x' k).final,(xT x' k).next⟩;rw[e3,e4];exact congrArg (fun z=>(⟨z,0,(xT x' k).final,(xT x' k).next⟩:DfaV)) e1
theorem qBD {d d':DfaV}{n n' k:Nat}(hd:VD d n k)(hd':VD d' n' k)(h:∀ w,yJ k w->acc d (st0 d) w=acc d' (st0 d') w):minD d k=minD d' k:=by
 refine trim_congr (kI hd) (kI hd') (fun h1 h2=>qDO hd h1 h2) (fun h1 h2=>qDO hd' h1 h2) fun w hw=>?_;rw[bY,bY,kH hd (oT hd) hw,kH hd' (oT hd') hw];exact h w hw
theorem min_trim {d:DfaV}{n k:Nat}(hd:VD d n k):minD (xT d k) k=minD d k:=qBD (lI hd) hd (fun w hw=>by rw[show st0 (xT d k)=0 from rfl];exact qDC hd hw)
end Go.Proofs.Ytjfdomfendbhfaa
