/- Part 14 of the proof: BX, ValidP, Trim, PTrim. -/
import Derived.Test.YtjfdomfendbhfaaQe13
import Derived.Deep.DeepCutAuto
import Derived.Deep.CutBlock
set_option linter.unusedVariables false
set_option linter.unusedSimpArgs false
namespace Go.Proofs.Ytjfdomfendbhfaa
open Go.RowKit
structure BX (W0 W:World) (o:Nat) (X:Nat->Prop) (k:Nat) (fs:List Bool) (t:List (List Int)) (hs:List Value) (sf:Option Addr) (cf:Nat) (sn:Option Addr) (cn:Nat):Prop where
 lt:∀ j,X j->j < W.heap.size
 box:W.heap[o]?=some (.cells #[.int .i64 (k:Int),.int .i64 0,.slice sf fs.length cf,.slice sn t.length cn] 42 (0,0))
 ownF:W.ownsRow o 4 1 (.slice sf fs.length cf) fs.length (bls fs)
 ownN:W.ownsRow o 34 1 (.slice sn t.length cn) t.length hs
 rows:vM X 3 ints W hs t
 lo:W0.heap.size<=o
 grown:W0.grownBy W none
section
variable {W0 W W':World} {o k:Nat} {X:Nat->Prop} {fs:List Bool} {t:List (List Int)} {hs:List Value} {sf:Option Addr} {cf:Nat} {sn:Option Addr} {cn:Nat}
theorem BX.start {w:World} {o k:Nat} (hb:w.heap[o]?=some (.cells #[.int .i64 (k:Int),.int .i64 0,.slice none 0 0,.slice none 0 0] 42 (0,0))) (h0:W0.heap.size<=o) (hg:W0.grownBy w none):BX W0 w o (fun _=>False) k [] [] [] none 0 none 0 :=
 ⟨fun _ h=>h.elim,hb,World.ownsRow_nil _ _ _ _,World.ownsRow_nil _ _ _ _,vM.nil,h0,hg⟩
theorem BX.grow (h:BX W0 W o X k fs t hs sf cf sn cn) (hg:W.grownBy W' none):BX W0 W' o X k fs t hs sf cf sn cn where
 lt:=fun j hj=>Nat.lt_of_lt_of_le (h.lt j hj) hg.size
 box:=zA h.box hg (by simp)
 ownF:=zQ h.ownF hg
 ownN:=zQ h.ownN hg
 rows:=h.rows.keptT hg (by simp)
 lo:=h.lo
 grown:=zB h.grown hg (by simp)
theorem BX.put (h:BX W0 W o X k fs t hs sf cf sn cn) {g:Nat} {c:Array Value} {m:Nat × Nat} (hg:W.grownBy W' (some g)) (hc:W.heap[g]?=some (.cells c 3 m)) (hX:¬ X g) (h0:W0.heap.size<=g):BX W0 W' o X k fs t hs sf cf sn cn where
 lt:=fun j hj=>Nat.lt_of_lt_of_le (h.lt j hj) hg.size
 box:=zA h.box hg (fun e=>by
  have:=Oj e
  subst this
  rw[h.box]at hc
  simp only[Option.some.injEq,Obj.cells.injEq]at hc
  exact absurd hc.2.1 (by decide))
 ownF:=h.ownF.kept hg (.inr (zS h.ownF hc (by decide)))
 ownN:=h.ownN.kept hg (.inr (zS h.ownN hc (by decide)))
 rows:=h.rows.kept (fun j hj=>hg.block j (h.lt j hj) (fun e=>by have:=Oj e;subst this;exact hX hj)) hg.size
 lo:=h.lo
 grown:=zB h.grown hg (fun j e=>by have:=Oj e;omega)
theorem BX.pushN (h:BX W0 W o X k fs t hs sf cf sn cn) {m:Nat} (hm:t.length=m) {rv:Value} {row:List Int} {sn':Option Addr} {cn':Nat} {Y:Nat->Prop} (hXY:∀ j,X j->Y j) (hY:∀ j,Y j->j < W.heap.size) (ho:W'.ownsRow o 34 1 (.slice sn' (m+1) cn') (m+1) (hs ++ [rv])) (hg:W.grownBy W' (Value.slice sn m cn).ownBlock) (hrow:RowX Y 3 W rv (ints row)) {W2:World} (hW2:W2=W'.setCell ⟨o,3,none⟩ (.slice sn' (m+1) cn')) :
  BX W0 W2 o Y k fs (t ++ [row]) (hs ++ [rv]) sf cf sn' cn':=by
 subst hm
 have hb:=zA h.box hg (zS h.ownN h.box (by decide))
 have h0:=heap_setCell_same W' o 3 _ _ (.slice sn' (t.length+1) cn') hb
 have g2:=zC W' ⟨o,3,none⟩ (.slice sn' (t.length+1) cn')
 rw[<- hW2]at h0 g2
 have h1:=h.ownF.kept hg (by
  rcases hv:(Value.slice sf fs.length cf).ownBlock with _|j
  ·exact .inl rfl
  ·refine .inr fun e=>?_
   obtain⟨cu,e',mm,hh,h5⟩:=yI (e':=34) h.ownF (by decide) j hv
   exact zS h.ownN hh (fun e2=>h5 e2.symm) e.symm)
 have h3:vM Y 3 ints W (hs ++ [rv]) (t ++ [row]):=(h.rows.mono hXY).snoc hrow
 have h2:=h3.keptT hg (fun j e=>yI h.ownN (by decide) j e)
 have h4:zY W' 3 o:=⟨_,_,_,hb,by decide⟩
 have hz:=hg.size
 have h6:=g2.size
 exact⟨fun j hj=>by have:=hY j hj;omega,by rw[h0];simp,h1.kept g2 (.inr (zS h1 hb (by decide))),by
  rw[List.length_append]
  exact ho.kept g2 (.inr (zS ho hb (by decide))),h2.keptT g2 (fun j e=>by have:=Oj e;subst this;exact h4),h.lo,zB (zB h.grown hg (fun j e=>Nat.le_trans h.lo (h.ownN.lt j e).1)) g2 (fun j e=>by have e:o=j:=Oj e;have:=h.lo;omega)⟩
theorem BX.pushF (h:BX W0 W o X k fs t hs sf cf sn cn) {m:Nat} (hm:fs.length=m) {b:Bool} {sf':Option Addr} {cf':Nat} (ho:W'.ownsRow o 4 1 (.slice sf' (m+1) cf') (m+1) (bls fs ++ [.bool b])) (hg:W.grownBy W' (Value.slice sf m cf).ownBlock) {W2:World} (hW2:W2=W'.setCell ⟨o,2,none⟩ (.slice sf' (m+1) cf')) :
  BX W0 W2 o X k (fs ++ [b]) t hs sf' cf' sn cn:=by
 subst hm
 have hb:=zA h.box hg (zS h.ownF h.box (by decide))
 have h0:=heap_setCell_same W' o 2 _ _ (.slice sf' (fs.length+1) cf') hb
 have g2:=zC W' ⟨o,2,none⟩ (.slice sf' (fs.length+1) cf')
 rw[<- hW2]at h0 g2
 have h1:=h.ownN.kept hg (by
  rcases hv:(Value.slice sn t.length cn).ownBlock with _|j
  ·exact .inl rfl
  ·refine .inr fun e=>?_
   obtain⟨cu,e',mm,hh,h4⟩:=yI (e':=4) h.ownN (by decide) j hv
   exact zS h.ownF hh (fun e2=>h4 e2.symm) e.symm)
 have h2:=h.rows.keptT hg (fun j e=>yI h.ownF (by decide) j e)
 have h3:zY W' 3 o:=⟨_,_,_,hb,by decide⟩
 have hz:=hg.size
 have h6:=g2.size
 have h5:bls (fs ++ [b])=bls fs ++ [.bool b]:=by simp[bls]
 exact⟨fun j hj=>by have:=h.lt j hj;omega,by rw[h0];simp,by
  rw[List.length_append,h5]
  exact ho.kept g2 (.inr (zS ho hb (by decide))),h1.kept g2 (.inr (zS h1 hb (by decide))),h2.keptT g2 (fun j e=>by have:=Oj e;subst this;exact h3),h.lo,zB (zB h.grown hg (fun j e=>Nat.le_trans h.lo (h.ownF.lt j e).1)) g2 (fun j e=>by have e:o=j:=Oj e;have:=h.lo;omega)⟩
theorem BX.built (h:BX W0 W o X k fs t hs sf cf sn cn) (hl:fs.length=t.length):Built o W o k 0 fs t hs sf cf sn cn:=⟨h.box,h.ownF,h.ownN,h.rows.rowsT,hl⟩
end
def vF (d:DfaV) (p:List Nat) (q:Nat):List Bool:=(vN p q).map fun q=>d.final.getD q false
def uC (d:DfaV) (p:List Nat) (q:Nat):List (List Int):=(vN p q).map fun q=>vG p (d.next.getD q [])
theorem quotFs_new {d:DfaV} {p:List Nat} {q:Nat} (h:p.getD q 0=cls (p.take q)):vF d p (q+1)=vF d p q ++ [d.final.getD q false]:=by
 rw[vF,xZ h,List.map_append];rfl
theorem quotTs_new {d:DfaV} {p:List Nat} {q:Nat} (h:p.getD q 0=cls (p.take q)):uC d p (q+1)=uC d p q ++ [vG p (d.next.getD q [])]:=by
 rw[uC,xZ h,List.map_append];rfl
theorem quotFs_old {d:DfaV} {p:List Nat} {q:Nat} (h:p.getD q 0≠cls (p.take q)):vF d p (q+1)=vF d p q:=by rw[vF,xY h];rfl
theorem quotTs_old {d:DfaV} {p:List Nat} {q:Nat} (h:p.getD q 0≠cls (p.take q)):uC d p (q+1)=uC d p q:=by rw[uC,xY h];rfl
theorem iP {d:DfaV} {p:List Nat} {q:Nat} (h:Norm p) (hq:q<=p.length):(vF d p q).length=cls (p.take q):=by rw[vF,List.length_map,wF h q hq]
theorem iO {d:DfaV} {p:List Nat} {q:Nat} (h:Norm p) (hq:q<=p.length):(uC d p q).length=cls (p.take q):=by rw[uC,List.length_map,wF h q hq]
theorem quot_full {d:DfaV} {p:List Nat} {q:Nat} (hq:q=p.length) (h0:p.getD (st0 d) 0=0):(⟨d.letters,0,vF d p q,uC d p q⟩:DfaV)=wC d p:=by
 rw[hq,wC,h0];rfl
theorem norm_zero {p:List Nat} (h:Norm p):p.getD 0 0=0:=by
 by_cases h0:0 < p.length
 ·have:=(nM h h0).1
  rw[List.take_zero]at this
  simpa [cls,zV] using this
 ·rw[List.getD,List.getElem?_eq_none (by omega)];rfl
set_option maxHeartbeats 800000 in
theorem vQ (B:Nat) (w:World) (v:Value) (d:DfaV) (hB:B<=w.heap.size) (h:tE B w v d) :
  Calls Try.prog 55 #[v] w fun e w'=>e=.returned (.int .i64 (xW d))/\w.grownBy w' none:=by
 obtain⟨fv,nv,rfl,hf,hn⟩:=h
 have a2:=hf.len_le
 rw[xE]at a2
 unfold maxLen at a2
 have a5:=hn.len_le
 unfold maxLen at a5
 obtain⟨fa,fc,rfl⟩:=hf.shape
 rw[xE]at hf ⊢
 obtain⟨na,nc,rfl⟩:=hn.shape
 have HN:=Kh hn
 obtain⟨n,a0⟩:∃ n,n=d.final.length:=⟨_,rfl⟩
 obtain⟨m,a1⟩:∃ m,m=d.next.length:=⟨_,rfl⟩
 obtain⟨L,hL⟩:∃ L,L=d.letters:=⟨_,rfl⟩
 obtain⟨S,hS⟩:∃ S,S=d.start:=⟨_,rfl⟩
 rw[<- a0]at a2 ⊢
 rw[<- a1]at a5 HN ⊢
 rw[<- hL,<- hS]
 have H0:=Kh a0;have H1:=Kh a1;have H8:=Kh hL;have b0:=Kh hS
 clear hf hn a0 a1 hL hS
 obtain⟨wA,H6⟩:∃ wA,wA=w.alloc (.cells #[.int .i64 L,.int .i64 S,.slice fa n fc,.slice na m nc] 42):=⟨_,rfl⟩
 have h3:wA.heap[w.heap.size]?=some (.cells #[.int .i64 L,.int .i64 S,.slice fa n fc,.slice na m nc] 42 (0,0)):=by rw[H6];exact heap_alloc_new w _
 have a7:w.grownBy wA none:=by rw[H6];exact Ga w _ none
 have c0:=zK h3 0 (by simp)
 have c1:=zK h3 1 (by simp)
 have c2:=zK h3 2 (by simp)
 have c3:=zK h3 3 (by simp)
 simp only[List.getElem_toArray,List.getElem_cons_zero,List.getElem_cons_succ]at c0 c1 c2 c3
 have h4:=Kh a7;have h9:=Kh H6
 clear h3 a7 H6
 by_cases hl:L < 1\/6 < L
 ·have HE:=Kh (validD_letters (d:=d) (by rw[<- H8.out];exact hl))
  by_cases h1:L < 1
  ·clear hl
   go_enter Try.func55,Try.ntmps55
   go_upto_region 1 with fail
   rw[<- h9.out]
   go_wp2
   go_ret
   exact⟨yF HE.out.symm,h4.out⟩
  ·have h6:6 < L:=by omega
   clear hl
   go_enter Try.func55,Try.ntmps55
   go_upto_region 1 with fail
   rw[<- h9.out]
   go_wp2
   go_ret
   exact⟨yF HE.out.symm,h4.out⟩
 ·have c7:1<=L:=by omega
  have c6:L<=6:=by omega
  have H2:Hid (¬ (d.letters < 1\/6 < d.letters)):=Kh (by rw[<- H8.out];exact hl)
  clear hl
  by_cases h5:512 < n
  ·have HE:=Kh (validD_big H2.out (by rw[<- H0.out];exact h5))
   go_enter Try.func55,Try.ntmps55
   go_upto_region 1 with fail
   rw[<- h9.out]
   go_wp2
   go_ret
   exact⟨yF HE.out.symm,h4.out⟩
  ·have H5:Hid (¬ 512 < d.final.length):=Kh (by rw[<- H0.out];exact h5)
   by_cases hsh:n=0\/m≠n\/S < 0\/n<=S
   ·have HE:=Kh (validD_shape H2.out H5.out (by rw[<- H0.out,<- H1.out,<- b0.out];exact hsh))
    ·by_cases h8:m=n
     ·have e1:((m:Int) != n)=false:=by rw[h8];simp
      have b7:=Kh h8
      by_cases hs:S < 0
      ·clear hsh h8
       go_enter Try.func55,Try.ntmps55
       go_upto_region 1 with fail
       rw[<- h9.out]
       go_wp2
       go_ret
       exact⟨yF HE.out.symm,h4.out⟩
      ·have b1:(n:Int)<=S:=by omega
       clear hsh h8
       go_enter Try.func55,Try.ntmps55
       go_upto_region 1 with fail
       rw[<- h9.out]
       go_wp2
       go_ret
       exact⟨yF HE.out.symm,h4.out⟩
     ·have e1:((m:Int) != n)=true:=by rw[bne_iff_ne];omega
      clear hsh
      go_enter Try.func55,Try.ntmps55
      go_upto_region 1 with fail
      rw[<- h9.out]
      go_wp2
      go_ret
      exact⟨yF HE.out.symm,h4.out⟩
   ·have H7:Hid (¬ (d.final.length=0\/d.next.length≠d.final.length\/d.start < 0\/d.final.length<=d.start)):=Kh (by rw[<- H0.out,<- H1.out,<- b0.out];exact hsh)
    have h0:0 < n:=by omega
    have e0:((n:Int) == 0)=false:=by rw[beq_eq_false_iff_ne];omega
    have h8:m=n:=by omega
    have e1:((m:Int) != n)=false:=by rw[h8];simp
    have c4:0<=S:=by omega
    have b1:S < n:=by omega
    have b2:0 < m:=by omega
    have a9:Mat B wA (.slice na m nc) d.next:=HN.out.kept h4.out (by simp)
    obtain⟨b,off,cap,A,C,e,b6,b5,a6⟩:=a9.some_ (by rw[<- H1.out];exact b2)
    simp only[Value.slice.injEq]at e
    obtain⟨rfl,-,rfl⟩:=e
    rw[<- H1.out]at b6
    have c5:nc<=9223372036854775807:=by unfold maxLen at b5;omega
    have HM:=Kh a6
    have b7:=Kh h8
    clear hsh h8 a9 a6
    go_enter Try.func55,Try.ntmps55
    go_upto_region 1 with fail
    rw[<- h9.out]
    go_wp2
    go_loopg [40] m (fun g i wr=>∃ k:Nat,g+k=m/\i=.int .i64 k/\DRows d k/\wA=wr)
    case atStart=>exact⟨0,rfl,rfl,fun x hx=>absurd hx (by omega),rfl⟩
    case round =>
     obtain⟨k,hg,rfl,H3,rfl⟩:=hrel
     have OK:=Kh H3;have HG:=Kh hg
     clear H3 hg
     by_cases hk:k < m
     ·have H4:k < d.next.length:=by rw[<- H1.out];exact hk
      have a8:=HM.out.hd k H4
      have h7:=HM.out.row k H4
      have H9:=h7.len_le
      rw[yO]at H9
      unfold maxLen at H9
      obtain⟨r,hr⟩:∃ r,r=d.next.getD k []:=⟨_,rfl⟩
      rw[<- hr]at a8 h7 H9
      have HR:=Kh hr;have a3:=Kh H4
      clear hr H4
      by_cases hlr:(r.length:Int)=L
      ·have b8:=Kh hlr
       have b3:((r.length:Int) != L)=false:=by rw[hlr];simp
       obtain⟨rb,ro,rc,e,hb,h1,h2,a4⟩:=h7.some_ (by rw[yO];omega)
       simp only[Value.slice.injEq]at e
       obtain⟨eA,-,rfl⟩:=e
       rw[eA]at a8
       rw[yO]at h1
       have HA:=Kh eA;have RA:=Kh a4
       clear eA a4 hlr h7
       go_wp2
       go_loopg [51] r.length (fun g j wr'=>∃ y:Nat,g+y=r.length/\j=.int .i64 y/\EntsOk n r y/\wA=wr')
       case atStart=>exact⟨0,rfl,rfl,fun x hx=>absurd hx (by omega),rfl⟩
       case round =>
        obtain⟨y,hg,rfl,H3,rfl⟩:=hrel
        have OKY:=Kh H3;have b9:=Kh hg
        clear H3 hg
        by_cases hy:y < r.length
        ·have b4:=RA.out.int y hy
         obtain⟨z,hz⟩:∃ z,z=r.getD y 0:=⟨_,rfl⟩
         rw[<- hz]at b4
         have HZ:=Kh hz
         clear hz
         by_cases hb1:z < 0
         ·have HE:=Kh (mB H2.out H5.out H7.out a3.out (by rw[<- HR.out];exact bZ (y:=y) hy (by rw[<- HZ.out];exact .inl hb1)))
          go_wp2
          go_ret
          exact⟨yF HE.out.symm,h4.out⟩
         ·by_cases hb2:(n:Int)<=z
          ·have HE:=Kh (mB H2.out H5.out H7.out a3.out (by rw[<- HR.out];exact bZ (y:=y) hy (by rw[<- HZ.out,<- H0.out];exact .inr hb2)))
           go_wp2
           go_ret
           exact⟨yF HE.out.symm,h4.out⟩
          ·go_wp2
           go_roundg (r.length - (y+1))
           case measure=>have:=b9.out;omega
           case rel =>
            refine⟨y+1,by omega,by go_num,fun x hx=>?_,rfl⟩
            rcases Nat.lt_succ_iff_lt_or_eq.1 hx with hx|rfl
            ·exact OKY.out x hx
            ·rw[<- HZ.out];omega
        ·go_wp2
         go_roundg (m - (k+1))
         case measure=>have:=HG.out;omega
         case rel =>
          refine⟨k+1,by omega,by go_num,fun x hx=>?_,rfl⟩
          rcases Nat.lt_succ_iff_lt_or_eq.1 hx with hx|rfl
          ·exact OK.out x hx
          ·rw[<- HR.out,pG,<- H0.out,<- H8.out]
           exact⟨b8.out,fun z hz=>OKY.out z (by omega)⟩
      ·have b3:((r.length:Int) != L)=true:=by rw[bne_iff_ne];exact hlr
       have HE:=Kh (mB H2.out H5.out H7.out a3.out (by rw[<- HR.out];exact rowD_len (by rw[<- H8.out];exact hlr)))
       clear hlr
       go_wp2
       go_ret
       exact⟨yF HE.out.symm,h4.out⟩
     ·have HE:=Kh (validD_ok H2.out H5.out H7.out (fun q hq=>OK.out q (by have:=H1.out;omega)))
      go_wp2
      go_ret
      exact⟨yF HE.out.symm,h4.out⟩
def tH (n:Nat) (l:List Nat):List Int:=(List.range n).map fun q=>rP l q
theorem vU (n:Nat) (l:List Nat):(tH n l).length=n:=by simp[tH]
theorem placeL_get {n:Nat} {l:List Nat} {q:Nat} (h:q < n):(tH n l).getD q 0=rP l q:=by
 rw[zF (by rw[vU];exact h)];simp[tH]
theorem placeL_nil (n:Nat):tH n []=List.replicate n (-1):=by
 refine List.ext_getElem (by simp[tH]) fun i h1 h2=>by simp[tH,rP]
theorem placeL_set {n:Nat} {l:List Nat} {q:Nat} (hq:q ∉ l):(tH n l).set q (l.length:Int)=tH n (l ++ [q]):=by
 refine List.ext_getElem (by simp[tH]) fun i h1 h2=>?_
 rw[List.getElem_set]
 simp only[tH,List.getElem_map,List.getElem_range,rP]
 by_cases e:q=i
 ·subst e
  rw[if_pos rfl,if_pos (by simp),List.idxOf_append,if_neg hq];simp
 ·rw[if_neg e]
  by_cases hi:i∈l
  ·rw[if_pos hi,if_pos (by simp[hi]),List.idxOf_append,if_pos hi]
  ·rw[if_neg hi,if_neg (by simp[hi,Ne.symm e])]
def fT (n k:Nat):List Int:=List.replicate k (-1) ++ List.replicate (n - k) 0
theorem lK {n k:Nat} (h:k<=n):(fT n k).length=n:=by simp[fT];omega
theorem fillM_set {n k:Nat} (h:k < n):(fT n k).set k (-1)=fT n (k+1):=by
 unfold fT
 rw[List.set_append_right _ _ (by simp),List.length_replicate,Nat.sub_self,show n - k=(n - (k+1))+1 by omega,List.replicate_succ,List.set_cons_zero,List.replicate_succ',List.append_assoc]
 rfl
def PTrimOk (w:World) (d:DfaV) (n k:Nat) (e:Ending) (w':World):Prop :=
 ∃ v G,e=.returned (.tuple #[v,.slice (some ⟨G,0,none⟩) n n])/\tA w w' v (xK d k)/\w.heap.size<=G/\Arr w' G 3 (ints (tH n (zT d k)))/\w.grownBy w' none
set_option maxRecDepth 100000 in
set_option maxHeartbeats 2000000 in
theorem dC (B:Nat) (w:World) (v:Value) (d:DfaV) (n k:Nat) (hB:B<=w.heap.size) (h:tE B w v d) (hd:VD d n k) (h5:n<=512) :
  Calls Try.prog 110 #[v] w (PTrimOk w d n k):=by
 have H0:=h
 obtain⟨fb,fo,fc,b,off,cap,RB,RO,RC,rfl,H5⟩:=h.at hd
 have hn:=hd.hn
 have j8:=hd.n1
 have k2:=hd.k6
 have k3:=hd.k1
 have k4:=H5.fcap.1
 have H8:=H5.fcap.2
 have k5:=H5.cap.1
 have H9:=H5.cap.2
 have f9:fc<=9223372036854775807:=by unfold maxLen at H8;omega
 have f8:cap<=9223372036854775807:=by unfold maxLen at H9;omega
 obtain⟨S,hS⟩:∃ S,S=st0 d:=⟨_,rfl⟩
 have g9:=Kh hS
 have d6:dAgg k (st0 d) fb fo fc b off cap n=.agg #[.int .i64 (k:Int),.int .i64 (S:Int),.slice (some ⟨fb,fo,none⟩) n fc,.slice (some ⟨b,off,none⟩) n cap]:=by rw[hS];rfl
 rw[d6]at H0 ⊢
 obtain⟨a1,b4,H6,d4⟩:=kK w #[.int .i64 (k:Int),.int .i64 (S:Int),.slice (some ⟨fb,fo,none⟩) n fc,.slice (some ⟨b,off,none⟩) n cap] #[.int .i64 0,.int .i64 0,.slice none 0 0,.slice none 0 0] 42
 obtain⟨wA,c4⟩:∃ wA,wA=(w.alloc (.cells #[.int .i64 (k:Int),.int .i64 (S:Int),.slice (some ⟨fb,fo,none⟩) n fc,.slice (some ⟨b,off,none⟩) n cap] 42)).alloc (.cells #[.int .i64 0,.int .i64 0,.slice none 0 0,.slice none 0 0] 42):=⟨_,rfl⟩
 rw[<- c4]at a1 b4 H6 d4
 obtain⟨c0,c1,c2,c3⟩:=zG a1
 obtain⟨P,hP⟩:∃ P,P=w.heap.size:=⟨_,rfl⟩
 obtain⟨Q,hQ⟩:∃ Q,Q=w.heap.size+1:=⟨_,rfl⟩
 have i2:=Kh hP;have i0:Hid (Q=P+1):=Kh (by omega)
 have l2:P < Q:=by omega
 have k8:Q < wA.heap.size:=by omega
 have l1:w.heap.size<=P:=by omega
 have g4:B<=wA.heap.size:=by omega
 rw[<- hQ]at b4
 rw[<- hP]at a1 c0 c1 c2 c3 hB
 have j2:=Kh a1;have j1:=Kh b4;have i6:=Kh H6;have g5:=Kh c4;have j3:=Kh (H5.kept H6 (by simp));have HN:=Kh hn;have HD:=Kh hd
 have e7:=Kh (vQ B wA _ d g4 (H0.kept H6 (by simp)))
 have g7:=Kh (qH hd h5)
 clear a1 b4 H6 c4 H5 hn hd h H0 d6 H8 H9 hS d4 hP hQ
 go_enter Try.func110,Try.ntmps110
 go_upto_region 1 with fail
 rw[<- g5.out,<- i2.out,<- i0.out]
 go_wp2_with fail
 refine e7.out.mono ?_
 rintro e w1 ⟨rfl,H4⟩
 rw[g7.out]
 have j7:=H4.size
 have i7:=Kh H4
 have H3:=Kh (zA j2.out H4 (by simp));have c9:=Kh (zA j1.out H4 (by simp))
 have e9:=Kh (explore_any B w1 P d n k S fb fo fc b off cap RB RO RC g9.out h5 ⟨H3.out,j3.out.kept H4 (by simp)⟩)
 obtain⟨d0,d1,d2,d3⟩:=zG H3.out
 clear H4 e7 c0 c1 c2 c3
 go_wp2_with fail
 refine e9.out.mono ?_
 rintro e w2 ⟨v2,sa,sc,rfl,⟨o,hs,sf,cf,sn,cn,rfl,ho,H1⟩,h3,b9⟩
 clear e9 d0 d1 d2 d3
 obtain⟨h6,g0⟩:=yV HD.out
 obtain⟨l,hl⟩:∃ l,l=zT d k:=⟨_,rfl⟩
 have HL:=Kh hl
 rw[<- hl]at h3 h6 g0 ⊢
 have g1:=h6.hd.1
 obtain⟨gl,rfl,k0,j9,a2⟩:=uS h3 g1
 obtain⟨m,hm⟩:∃ m,m=xK d k:=⟨_,rfl⟩
 rw[<- hm]at H1
 have HM:=Kh hm
 have a6:(xK d k).start=0:=rfl
 have b0:(xK d k).letters=k:=HD.out.hk
 rw[<- hm]at a6 b0
 rw[<- hm,a6,b0]
 have j4:=Kh a2;have c8:=Kh b9;have a4:=Kh h6;have i9:=Kh H1;have i4:=Kh a6;have i5:=Kh b0
 have j6:=b9.size
 obtain⟨FL,c6⟩:∃ FL,FL=m.final.length:=⟨_,rfl⟩
 obtain⟨NL,c5⟩:∃ NL,NL=m.next.length:=⟨_,rfl⟩
 rw[<- c6,<- c5]
 have i8:=Kh c6;have i3:=Kh c5
 clear hl h3 a2 b9 h6 hm a6 b0 H1 c6 c5
 obtain⟨w3,b6⟩:∃ w3,w3=w2.alloc (.cells #[.int .i64 (k:Int),.int .i64 0,.slice sf FL cf,.slice sn NL cn] 42):=⟨_,rfl⟩
 obtain⟨T,hT⟩:∃ T,T=w2.heap.size:=⟨_,rfl⟩
 have H7:=Ga w2 (.cells #[.int .i64 (k:Int),.int .i64 0,.slice sf FL cf,.slice sn NL cn] 42) none
 have a0:=heap_alloc_new w2 (.cells #[.int .i64 (k:Int),.int .i64 0,.slice sf FL cf,.slice sn NL cn] 42)
 rw[<- b6]at H7 a0
 rw[<- hT]at a0
 have b5:=Kh H7;have j0:=Kh a0;have g6:=Kh b6;have g8:=Kh hT
 have j5:=H7.size
 have k7:=zH a0
 have k9:Q < T:=by omega
 have l0:P+1 < w3.heap.size:=by omega
 obtain⟨d0,d1,d2,d3⟩:=zG (zA (zA H3.out c8.out (by simp)) H7 (by simp))
 clear H7 a0 b6 hT
 go_upto_region 4 with fail
 rw[<- g6.out,<- g8.out]
 go_wp2_with (first|(at_make;refine kZ rfl _ _ _ rfl xQ rfl .i64 .i64 _ _ n rfl rfl rfl rfl ?b1 ?b2 ?_;(case b1=>omega);(case b2=>(unfold maxLen;omega));intro w4 h0 e5 b8)|fail)
 obtain⟨G,hG⟩:∃ G,G=w3.heap.size:=⟨_,rfl⟩
 rw[<- hG]at h0 b8 ⊢
 have f5:=Kh h0;have e8:=Kh e5;have c7:=Kh hG
 have l3:T < G:=by omega
 clear h0 e5 hG d0 d1 d2 d3
 go_loopg [8,32] n (fun gh a7 i wr=>∃ q:Nat,gh+q=n/\i=.int .i64 q/\Arr wr G 3 (ints (fT n q))/\w3.grownBy wr none)
 case atStart=>exact⟨0,rfl,rfl,by simpa [fT,sX] using f5.out,e8.out⟩
 case round =>
  clear f5 e8
  obtain⟨q,hg,rfl,h0,h4⟩:=hrel
  have HG:=Kh hg;have HA:=Kh h0;have a3:=Kh h4
  clear hg
  by_cases hq:q < n
  ·have f7:(q:Int) < n:=by omega
   have cgk:=h0.int q (by rw[lK (by omega)];exact hq)
   have fgk:=h0.frozen q
   have HS:=Kh (fillM_set hq)
   clear h0 h4
   go_wp2
   go_roundg (n - (q+1))
   case measure=>have:=HG.out;omega
   case rel =>
    refine⟨q+1,by omega,by go_num,?_,zB a3.out (zC wr ⟨G,q,none⟩ _) (fun q e=>by have h7:G=q:=Oj e;have:=c7.out;omega)⟩
    rw[<- HS.out]
    exact HA.out.int_set q (by rw[lK (by omega)];exact hq) (-1)
  ·have d7:q=n:=by have:=HG.out;omega
   have HF:Hid (fT n q=tH n (l.take 0)):=Kh (by rw[d7,List.take_zero,placeL_nil];simp[fT])
   rw[HF.out]at HA
   clear d7 h0 h4 HG
   obtain⟨w5,rfl⟩:∃ w5:World,w5=wr:=⟨_,rfl⟩
   go_wp2
   go_loopg [9,10,41] l.length (fun gh a8 a9 i wr=>∃ q:Nat,gh+q=l.length/\i=.int .i64 q/\Arr wr G 3 (ints (tH n (l.take q)))/\w3.grownBy wr none)
   case atStart=>exact⟨0,rfl,rfl,HA.out,a3.out⟩
   case round =>
    clear HA a3 HF
    obtain⟨q,hg,rfl,h0,h4⟩:=hrel
    have HG:=Kh hg;have HA:=Kh h0;have a3:=Kh h4
    clear hg
    by_cases hq:q < l.length
    ·have f7:(q:Int) < l.length:=by omega
     have cl:=((j4.out.kept b5.out (by simp)).kept h4 (by simp)).nat q hq
     have b7:l.getD q 0 < n:=a4.out.lt _ (by rw[zF hq];exact List.getElem_mem _)
     have a5:l.take (q+1)=l.take q ++ [l.getD q 0]:=zW hq
     have h9:l.getD q 0 ∉ l.take q:=by
      have h1:=a4.out.nd
      have h2:(l.take (q+1)).Nodup:=h1.sublist (List.take_sublist _ _)
      rw[a5,List.nodup_append]at h2
      exact fun hm=>h2.2.2 _ hm _ (by simp) rfl
     obtain⟨s,hs⟩:∃ s,s=l.getD q 0:=⟨_,rfl⟩
     rw[<- hs]at cl b7 a5 h9
     have f6:(s:Int) < n:=by omega
     have cgk:=h0.int s (by rw[vU];exact b7)
     have fgk:=h0.frozen s
     have HS:Hid ((tH n (l.take q)).set s (q:Int)=tH n (l.take (q+1))):=Kh (by
      have:=placeL_set (n:=n) h9
      rw[List.length_take,Nat.min_eq_left (by omega)]at this
      rw[this,a5])
     clear h0 h4 a5 h9 hs
     go_wp2
     go_roundg (l.length - (q+1))
     case measure=>have:=HG.out;omega
     case rel =>
      refine⟨q+1,by omega,by go_num,?_,zB a3.out (zC wr ⟨G,s,none⟩ _) (fun q e=>by have h7:G=q:=Oj e;have:=c7.out;omega)⟩
      rw[<- HS.out]
      exact HA.out.int_set s (by rw[vU];exact b7) (q:Int)
    ·have d8:q=l.length:=by have:=HG.out;omega
     have d9:l.take q=l:=by rw[d8];exact List.take_length
     rw[d9]at HA h0
     have i1:=Kh h0;have h8:=Kh h4
     clear d8 d9 h0 HA HG h4
     obtain⟨e0,e1,e2,e3⟩:=zG (zA j0.out h8.out (by simp))
     have H2:=zA (zA (zA c9.out c8.out (by simp)) b5.out (by simp)) h8.out (by simp)
     obtain⟨q0,q1,q2,q3⟩:=zG H2
     have f0:=zE H2 0
     have f1:=zE H2 1
     have f2:=zE H2 2
     have f3:=zE H2 3
     have f4:=Kh H2
     clear H2
     go_wp2
     obtain⟨e6,b3⟩:=wG f4.out (.int .i64 (k:Int)) (.int .i64 0) (.slice sf FL cf) (.slice sn NL cn)
     obtain⟨wz,d5⟩:∃ wz,wz=(((wr.setCell ⟨Q,0,none⟩ (.int .i64 (k:Int))).setCell ⟨Q,1,none⟩ (.int .i64 0)).setCell ⟨Q,2,none⟩ (.slice sf FL cf)).setCell ⟨Q,3,none⟩ (.slice sn NL cn):=⟨_,rfl⟩
     rw[<- d5]at e6 b3 ⊢
     clear d5
     obtain⟨r0,r1,r2,r3⟩:=zG e6
     clear e0 e1 e2 e3 q0 q1 q2 q3 f0 f1 f2 f3
     refine bodyPost_ret (v:=.tuple #[.agg #[.int .i64 (k:Int),.int .i64 0,.slice sf FL cf,.slice sn NL cn],.slice (some ⟨G,0,none⟩) n n]) (by simp[results,Try.results110,go_sem,r0,r1,r2,r3]) rfl ?_
     have g2:w.grownBy wz none:=zB (zB (zB (zB (zB i6.out i7.out (by simp)) c8.out (by simp)) b5.out (by simp)) h8.out (by simp)) b3 (fun k e=>by have h7:Q=k:=Oj e;omega)
     have g3:=((i9.out.grow b5.out).grow h8.out).far b3 f4.out (by omega)
     have e4:xK d k=m:=HM.out.symm
     refine⟨_,G,rfl,⟨o,hs,sf,cf,sn,cn,?_,by omega,by rw[e4];exact g3⟩,by have:=c7.out;omega,?_,g2⟩
     ·rw[e4,i4.out,i5.out,i8.out,i3.out]
     ·rw[<- HL.out]
      exact i1.out.kept b3 (fun e=>by have h7:Q=G:=Oj e;omega)
end Go.Proofs.Ytjfdomfendbhfaa
