/- Part 38 of the proof: CCl. -/
import Derived.Test.YtjfdomfendbhfaaQe37
set_option linter.unusedVariables false
set_option linter.unusedSimpArgs false
namespace Go.Proofs.Ytjfdomfendbhfaa
open Go.RowKit Go.Maps
theorem fillL_stay {l:List Nat} {np j:Nat} (h:l.length=np) (hj:j < np) (h0:l.getD j 0=0):rI l np (j+1)=rI l np j:=by
 rw[<- nS h hj,h0]
 refine List.ext_getElem (by simp) fun i h1 h2=>?_
 rw[List.getElem_set]
 split
 ·rename_i e;subst e
  have hl:(l.take j).length=j:=by rw[List.length_take];omega
  have:(rI l np j)[j]?=some 0:=by
   unfold rI
   rw[List.getElem?_append_right (by omega),hl,Nat.sub_self]
   rw[List.getElem?_replicate];rw[if_pos (by omega)]
  rw[List.getElem?_eq_getElem (by simpa using h2)]at this
  exact(Oj this).symm
 ·rfl
theorem cO {base:Nat} {w:World} {g cap n:Nat} {l:List ClaV} (h:w.ownsRow base 99 3 (.slice (some ⟨g,0,none⟩) n cap) n (vY l)) {i:Nat} (hi:i < l.length) :
  w.cell? ⟨g,i * 3+1,none⟩=some (.int .i64 (l.getD i default).yes)/\w.cell? ⟨g,i * 3+2,none⟩=some (.int .i64 (l.getD i default).no)/\w.frozen? ⟨g,i * 3+1,none⟩=false/\w.frozen? ⟨g,i * 3+2,none⟩=false:=by
 have h0:∀ g j,(⟨g,0,none⟩:Addr).add j=⟨g,j,none⟩:=fun g j=>by unfold Addr.add;split <;> simp_all
 have c1:=h.cells (g:=g) rfl _ _ (rJ l i hi).2.1
 have c2:=h.cells (g:=g) rfl _ _ (rJ l i hi).2.2
 rw[h0]at c1 c2
 rcases h.2 with ⟨hv,_⟩|⟨g',cap',cur,hv,hb,hg,hnc,hcm,hcs,htake⟩
 ·simp at hv
 ·simp only[Value.slice.injEq,Option.some.injEq,Addr.mk.injEq]at hv
  obtain⟨⟨rfl,_⟩,_,rfl⟩:=hv
  rw[zF hi]
  exact⟨c1,c2,frozen_of_row w g _ _ _ hg,frozen_of_row w g _ _ _ hg⟩
theorem iU {w:World} {base e n sc:Nat} {sa:Option Addr} {xs:List Value} (h:w.ownsRow base e 3 (.slice sa n sc) n xs) (hn:0 < n):∃ kb,sa=some ⟨kb,0,none⟩/\n<=sc/\sc<=maxLen:=by
 rcases h.2 with ⟨h',h0⟩|⟨g,cap,cur,h1,hb,hg,hnc,hcm,_⟩
 ·omega
 ·simp only[Value.slice.injEq]at h1
  obtain⟨rfl,-,rfl⟩:=h1
  exact⟨g,rfl,hnc,hcm⟩
def qCD (w:World) (ds:List DfaV) (np:Nat) (L:List (List Nat)) (e:Ending) (w':World):Prop :=
 ∃ l sa sc,e=.returned (.slice sa (l:List ClaV).length sc)/\w'.ownsRow w.heap.size 99 3 (.slice sa l.length sc) l.length (vY l)/\ClsI (fun s=>mtsT ds np (L.getD s [])) (fun s=>accT ds (L.getD s []) np) L.length L.length l/\w.grownBy w' none
structure ClS (w:World) (mb np:Nat) (M:Nat->List Bool) (A:Nat->Bool) (s t:Nat) (sa:Option Addr) (sc:Nat) (l:List ClaV) (wr:World):Prop where
 own:wr.ownsRow w.heap.size 99 3 (.slice sa l.length sc) l.length (vY l)
 map:∃ u c,u<=t/\MapK 9 (fun m:List Bool=>m.length=np) (fun m=>.string (mT m)) wr mb u c (numC l)
 cls:ClsI M A s t l
 gr:w.grownBy wr none
 mlo:w.heap.size<=mb
section
variable {w wr w':World} {mb np s t:Nat} {M:Nat->List Bool} {A:Nat->Bool} {sa:Option Addr} {sc:Nat} {l:List ClaV}
theorem ClS.grow (h:ClS w mb np M A s t sa sc l wr) (hg:wr.grownBy w' none):ClS w mb np M A s t sa sc l w':=by
 obtain⟨u,c,hu,hm⟩:=h.map
 exact⟨zQ h.own hg,⟨u,c,hu,hm.kept hg (by simp)⟩,h.cls,zB h.gr hg (by simp),h.mlo⟩
theorem ClS.bytes (h:ClS w mb np M A s t sa sc l wr) {tb:Nat} {xs:List Value} (ha:Arr wr tb 5 xs) (hlo:w.heap.size<=tb) (hg:wr.grownBy w' (some tb)):ClS w mb np M A s t sa sc l w':=by
 obtain⟨u,c,hu,hm⟩:=h.map
 obtain⟨cs,r,hb,_⟩:=id ha
 have h1:(Value.slice sa l.length sc).ownBlock≠some tb:=fun e=>zS h.own hb (by decide) e
 refine⟨h.own.kept hg (.inr (fun e=>h1 e)),⟨u,c,hu,hm.kept hg (fun e=>?_)⟩,h.cls,zB h.gr hg (fun k e=>by have e:tb=k:=Oj e;omega),h.mlo⟩
 have e:tb=mb:=Oj e
 obtain⟨es,clock,h0⟩:=hm.obj
 rw[<- e,hb]at h0;simp at h0
end
set_option maxRecDepth 100000 in
set_option maxHeartbeats 1600000 in
theorem prodClasses_any (Bd:Nat) (w:World) (o k:Nat) (pv:Value) (ds:List DfaV) (L:List (List Nat)) (nxl fr bl:List Nat) (sb sc nb nc fb fc bb bc np:Nat) (hBd:Bd<=w.heap.size) (h:ProdV w o k pv L nxl fr bl sb sc nb nc fb fc bb bc) (hd:DsIn Bd w pv ds) (hok:OkT ds k) (hnp:ds.length=np+1) (hin:∀ s,s < L.length->InT ds (L.getD s [])) (hl:ds.length<=400) (hL:L.length<=4000) :
  Calls Try.prog 59 #[.pointer (some ⟨o,0,none⟩),.int .i64 (np:Int)] w (qCD w ds np L):=by
 have a2:Hid (∀ (W:World) (s i:Nat),w.grownBy W none->s < L.length->i < ds.length->Calls Try.prog 69 #[.pointer (some ⟨o,0,none⟩),.int .i64 (s:Int),.int .i64 (i:Int)] W fun e w'=>e=.returned (.bool (accT ds (L.getD s []) i))/\W.grownBy w' none):=Kh (fun W s i hW hs hi=>lA Bd W o k pv ds L nxl fr bl sb sc nb nc fb fc bb bc s i (h.grow hW) (hd.kept hW (by simp)) hok hs hi (hin s hs) hl hL)
 obtain⟨M,hM⟩:∃ M:Nat->List Bool,M=fun s=>mtsT ds np (L.getD s []):=⟨_,rfl⟩
 obtain⟨A,hA⟩:∃ A:Nat->Bool,A=fun s=>accT ds (L.getD s []) np:=⟨_,rfl⟩
 have a1:Hid (∀ s,(M s).length=np):=Kh (fun s=>by rw[hM];exact oP _ _ _)
 have j6:Hid (∀ s i,i < np->accT ds (L.getD s []) i=(M s).getD i false):=Kh (fun s i hi=>by rw[hM];exact(nO hi).symm)
 have f9:Hid (∀ s,accT ds (L.getD s []) np=A s):=Kh (fun s=>by rw[hA])
 have i1:=Kh (key_mT (n:=np) (by omega))
 have f5:Hid (qCD w ds np L=fun e w'=>∃ l sa sc,e=.returned (.slice sa (l:List ClaV).length sc)/\w'.ownsRow w.heap.size 99 3 (.slice sa l.length sc) l.length (vY l)/\ClsI M A L.length L.length l/\w.grownBy w' none):=Kh (by rw[hM,hA];rfl)
 rw[f5.out]
 obtain⟨x0,x1,x2,x3,x4,x5⟩:=h.cells
 have f0:=h.caps
 obtain⟨m,hm⟩:∃ m,m=L.length:=⟨_,rfl⟩
 have i9:np<=400:=by omega
 have f8:Hid (np < ds.length):=Kh (by omega)
 rw[<- hm]at x2 f0 a2 hL ⊢
 have k2:sc<=9223372036854775807:=by have:=f0.2.1;unfold maxLen at this;omega
 have j1:=@run_makeMap Try.prog
 have j5:Hid (∀ W:World,(Instr.makeSlice 106 (.int .i64 (np:Int)) (.int .i64 (np:Int))).run Try.prog W=.ok (.slice (some ⟨W.heap.size,0,none⟩) np np) (W.alloc (.cells (madeCells #[.int .u8 0] np) 5))):=Kh (fun W=>run_make_row' 106 5 (.int .u8 0) 1 Try.underlying106 (by kernel_rfl) rfl .i64 .i64 np (by omega) (by omega) W)
 clear h hd hok hM hA hin f0 hm x0 x1 x3 x4 x5 hnp hl
 go_enter Try.func59,Try.ntmps59
 go_upto_region 3 with fail
 obtain⟨mb,g2⟩:∃ b,b=w.heap.size:=⟨_,rfl⟩
 obtain⟨w1,b9⟩:∃ w1,w1=w.alloc (.map #[] 0):=⟨_,rfl⟩
 have H2:=MapK.made 9 (fun m:List Bool=>m.length=np) (fun m=>.string (mT m)) w
 have a6:=Ga w (.map #[] 0) none
 rw[<- b9]at H2 a6 ⊢
 rw[<- g2]at H2 ⊢
 have g9:Hid (ClS w mb np M A 0 0 none 0 [] w1):=Kh ⟨World.ownsRow_nil _ _ _ _,⟨0,0,Nat.le_refl _,H2⟩,ClsI.nil M A,a6,by omega⟩
 have x2:=xI x2 a6
 clear H2 b9 g2 a6 j1
 go_wp2
 go_loopg [5,7,8,9,10,11,12,19] m (fun gh v5 v7 v8 v9 v10 v11 v12 v19 wr=>∃ (s:Nat) (sa:Option Addr) (sd:Nat) (l:List ClaV),gh+s=m/\v19=.int .i64 s/\v5=.slice sa l.length sd/\ClS w mb np M A s s sa sd l wr)
 case atStart=>exact⟨0,none,0,[],rfl,rfl,rfl,g9.out⟩
 case round =>
  clear g9
  obtain⟨s,sa,sd,l,g5,rfl,rfl,H6⟩:=hrel
  have H1:=Kh g5;have h7:=Kh H6
  clear g5 x2 w1
  by_cases hs:s < m
  ·have i7:(s:Int) < m:=by omega
   have g1:=j5.out wr
   obtain⟨tb,d9⟩:∃ b,b=wr.heap.size:=⟨_,rfl⟩
   obtain⟨w1,b9⟩:∃ w1,w1=wr.alloc (.cells (madeCells #[.int .u8 0] np) 5):=⟨_,rfl⟩
   have a6:=Ga wr (.cells (madeCells #[.int .u8 0] np) 5) none
   have d0:=Arr.new wr 5 (madeCells #[.int .u8 0] np)
   rw[show (madeCells #[.int .u8 0] np).toList=List.replicate np (.int .u8 0) by have:=rE (z:=.int .u8 0) rfl np;rw[Nat.mul_one]at this;exact this]at d0
   rw[<- b9,<- d9]at g1
   rw[<- b9]at a6 d0
   rw[<- d9]at d0
   have j3:w.heap.size<=tb:=by have:=H6.gr.size;omega
   have g8:=Kh (H6.grow a6);have i4:=Kh d0
   clear H6 a6 d0 b9 d9 h7
   go_wp2
   clear g1
   go_loopg [9,26] np (fun gh v9 v26 wr=>∃ i:Nat,gh+i=np/\v26=.int .i64 i/\Arr wr tb 5 (u8s (rI (mN (M s)) np i))/\ClS w mb np M A s s sa sd l wr)
   case atStart=>exact⟨0,rfl,rfl,by rw[mM,u8s_replicate];exact i4.out,g8.out⟩
   case round =>
    clear i4 g8 w1
    obtain⟨i,g6,rfl,c0,H6⟩:=hrel
    have c4:=Kh g6
    clear g6
    by_cases hi:i < np
    ·have j4:(i:Int) < np:=by omega
     have hg:=H6.gr
     have h7:=Kh H6;have i3:=Kh c0
     have H3:=a2.out wr s i hg hs (by have:=f8.out;omega)
     rw[j6.out s i hi]at H3
     have b8:Hid ((mN (M s)).getD i 0=if (M s).getD i false=true then 1 else 0):=Kh (mN_get (by rw[a1.out];exact hi))
     obtain⟨b,hb⟩:∃ b,b=(M s).getD i false:=⟨_,rfl⟩
     rw[<- hb]at H3 b8
     have a7:=Kh H3
     clear H3 hb hg c0 H6
     go_wp2_with fail
     refine a7.out.mono ?_
     rintro e w2 ⟨rfl,H9⟩
     have c5:=Kh (i3.out.kept H9 (by simp));have a0:=Kh (h7.out.grow H9)
     clear H9 a7 i3 h7
     cases b with
     | false =>
      have HE:=Kh (fillL_stay (l:=mN (M s)) (np:=np) (j:=i) (by rw[uU,a1.out]) hi b8.out)
      go_wp2
      go_roundg (np - (i+1))
      case measure=>have:=c4.out;omega
      case rel=>exact⟨i+1,by have:=c4.out;omega,by go_num,by rw[HE.out];exact c5.out,a0.out⟩
     | true =>
      have HE:=Kh (nS (l:=mN (M s)) (np:=np) (j:=i) (by rw[uU,a1.out]) hi)
      rw[b8.out]at HE
      have e8:(rI (mN (M s)) np i).length=np:=sO (by rw[uU,a1.out]) (by omega)
      have c1:=gO c5.out i (by rw[e8];exact hi)
      have f1:=c5.out.frozen i
      have a8:=c5.out.set i (by rw[iG,e8];exact hi) (.int .u8 1)
      rw[show (u8s (rI (mN (M s)) np i)).set i (.int .u8 1)=u8s (rI (mN (M s)) np (i+1)) by rw[<- HE.out];exact kJ _ i 1]at a8
      have f4:=Kh a8
      have H7:=Kh (a0.out.bytes c5.out j3 (zC w2 ⟨tb,i,none⟩ (.int .u8 1)))
      have j9:=c5.out.lt
      clear a8 e8
      go_wp2
      go_roundg (np - (i+1))
      case measure=>have:=c4.out;omega
      case rel=>exact⟨i+1,by have:=c4.out;omega,by go_num,f4.out,H7.out⟩
    ·have hin:i=np:=by have:=c4.out;omega
     have j4:¬ (i:Int) < np:=by omega
     rw[jE (by rw[uU,a1.out]) hin]at c0
     have b4:=c0
     have d6:∀ W:World,wr.grownBy W none->(convert 106 9 (.slice (some ⟨tb,0,none⟩) np np)).run Try.prog W=.ok (.string (mT (M s))) W:=fun W hW=>nI 106 5 Try.underlying106 Try.underlying5 9 Try.underlying9 np np (by rw[eL,uU,a1.out]) (c0.kept hW (by simp))
     obtain⟨U,hU⟩:∃ U,U=mT (M s):=⟨_,rfl⟩
     rw[<- hU]at d6
     have c7:=d6 wr (zN _ _)
     have k0:=Kh d6
     obtain⟨u,c,hu,b1⟩:=H6.map
     have H4:=b1.lookup i1.out (x:=M s) (a1.out s)
     have HU:=Kh hU;have f3:=Kh hu;have H5:=Kh b1;have h7:=Kh H6
     have HA:=Kh (f9.out s)
     have d4:Hid (∀ W:World,wr.grownBy W none->Calls Try.prog 69 #[.pointer (some ⟨o,0,none⟩),.int .i64 (s:Int),.int .i64 (np:Int)] W fun e w'=>e=.returned (.bool (A s))/\W.grownBy w' none):=Kh (fun W hW=>by
      have:=a2.out W s np (zB H6.gr hW (by simp)) hs f8.out
      rwa [f9.out s]at this)
     clear hU hu b1 d6 c0 hin c4 H6 HA
     by_cases hmem:M s∈l.map ClaV.m
     ·obtain⟨q,hq⟩:∃ q,q=(l.map ClaV.m).idxOf (M s):=⟨_,rfl⟩
      have H0:q < l.length:=by have:=List.idxOf_lt_length_of_mem hmem;rw[<- hq,List.length_map]at this;exact this
      have g0:(l.getD q default).m=M s:=by
       rw[zF H0]
       have h1:=List.getElem_idxOf (x:=M s) (xs:=l.map ClaV.m) (by rw[<- hq,List.length_map];exact H0)
       simp only[<- hq,List.getElem_map]at h1
       exact h1
      have e3:Sem.run Try.prog (Instr.lookup 129 (.map (some mb)) (.string U) true) wr=.ok (.tuple #[.int .i64 (q:Int),.bool true]) wr:=by
       rw[numC_of_mem hmem,<- hq]at H4
       rw[HU.out];exact H4
      have a0:Hid (ClS w mb np M A s (s+1) sa sd l wr):=Kh ⟨h7.out.own,⟨u,c,Nat.le_succ_of_le f3.out,H5.out⟩,h7.out.cls.old hmem,h7.out.gr,h7.out.mlo⟩
      have e2:l.length<=4000:=by have:=h7.out.cls.len_le;omega
      have c2:=Kh H0;have d7:=Kh g0
      clear H4 hq g0 hmem H5 h7 H0
      obtain⟨nl,a9⟩:∃ n,n=l.length:=⟨_,rfl⟩
      have h6:=Kh a9
      rw[<- a9]at e2 c2 ⊢
      have H0:=c2.out
      clear a9
      obtain⟨ab,b5⟩:∃ b,b=A s:=⟨_,rfl⟩
      rw[<- b5]at d4
      have a3:=Kh b5
      clear b5
      go_wp2_with fail
      clear e3 c7
      refine(d4.out _ (zN _ _)).mono ?_
      rintro e w2 ⟨rfl,H9⟩
      have h8:=a0.out.grow H9
      have h2:=h8.own
      rw[<- h6.out]at h2
      obtain⟨gb,rfl,f2,c8⟩:=iU h2 (by omega)
      have j0:sd<=9223372036854775807:=by unfold maxLen at c8;omega
      obtain⟨cy,cn,fy,fn⟩:=cO h2 (i:=q) (by rw[<- h6.out];exact H0)
      have f6:=Kh (jN l q (s:Int) (by rw[<- h6.out];exact H0))
      have f7:=Kh (fZ l q (s:Int) (by rw[<- h6.out];exact H0))
      have b6:=Kh (h8.cls.put (by rw[<- h6.out];exact H0) d7.out)
      obtain⟨y,hy⟩:∃ y,y=(l.getD q default).yes:=⟨_,rfl⟩
      obtain⟨z,hz⟩:∃ z,z=(l.getD q default).no:=⟨_,rfl⟩
      rw[<- hy]at cy
      rw[<- hz]at cn
      have HY:=Kh hy;have HZ:=Kh hz
      have H7:=Kh h8;have h5:=Kh h2
      have e5:gb < w2.heap.size:=(h2.lt gb rfl).2
      have e4:w.heap.size<=gb:=(h2.lt gb rfl).1
      have i8:(q:Int) < nl:=by omega
      clear H9 h8 h2 hy hz f2 c8 a0
      have h9:Hid (∀ (x:ClaV) (W:World),putC (l.getD q default) (A s) s=x->(x.m=(l.getD q default).m)->W.ownsRow w.heap.size 99 3 (.slice (some ⟨gb,0,none⟩) nl sd) nl (vY (l.set q x))->w2.grownBy W (some gb)->ClS w mb np M A (s+1) (s+1) (some ⟨gb,0,none⟩) sd (l.set q x) W):=Kh (fun x W hx hxm ho hg=>by
       obtain⟨u3,c3,d8,c6⟩:=H7.out.map
       refine⟨by rw[List.length_set,<- h6.out];exact ho,⟨u3,c3,d8,?_⟩,by have:=b6.out;rw[hx]at this;exact this,zB H7.out.gr hg (fun k e=>by have e:gb=k:=Oj e;omega),H7.out.mlo⟩
       rw[aH (by rw[<- h6.out];exact H0) hxm]
       exact c6.kept hg (fun e=>xU (es:=#[]) (clock:=0) H7.out.own c6.obj (by rw[<- e];rfl)))
      have h4:Hid (l.set q (l.getD q default)=l):=Kh (by
       rw[zF (by rw[<- h6.out];exact H0)]
       exact List.set_getElem_self _)
      cases ab with
      | true =>
       by_cases hy0:y < 0
       ·have h0:=uT (i:=q * 3+1) h5.out (.int .i64 (s:Int))
        rw[f6.out]at h0
        have h3:=Kh (h9.out ⟨(l.getD q default).m,(s:Int),(l.getD q default).no⟩ _ (by rw[putC,if_pos a3.out.symm,if_pos (by rw[<- HY.out];exact hy0)]) rfl h0 (zC w2 ⟨gb,q * 3+1,none⟩ _))
        clear h0
        go_wp2
        go_roundg (m - (s+1))
        case measure=>have:=H1.out;omega
        case rel=>exact⟨s+1,_,_,l.set q ⟨(l.getD q default).m,(s:Int),(l.getD q default).no⟩,by have:=H1.out;omega,by go_num,by rw[List.length_set,<- h6.out],h3.out⟩
       ·have h3:=Kh (h9.out (l.getD q default) w2 (by rw[putC,if_pos a3.out.symm,if_neg (by rw[<- HY.out];exact hy0)]) rfl (by rw[h4.out];exact h5.out) (zN _ _))
        rw[h4.out]at h3
        go_wp2
        go_roundg (m - (s+1))
        case measure=>have:=H1.out;omega
        case rel=>exact⟨s+1,_,_,l,by have:=H1.out;omega,by go_num,by rw[<- h6.out],h3.out⟩
      | false =>
       by_cases hz0:z < 0
       ·have h0:=uT (i:=q * 3+2) h5.out (.int .i64 (s:Int))
        rw[f7.out]at h0
        have h3:=Kh (h9.out ⟨(l.getD q default).m,(l.getD q default).yes,(s:Int)⟩ _ (by rw[putC,<- a3.out,if_neg (by simp),if_pos (by rw[<- HZ.out];exact hz0)]) rfl h0 (zC w2 ⟨gb,q * 3+2,none⟩ _))
        clear h0
        go_wp2
        go_roundg (m - (s+1))
        case measure=>have:=H1.out;omega
        case rel=>exact⟨s+1,_,_,l.set q ⟨(l.getD q default).m,(l.getD q default).yes,(s:Int)⟩,by have:=H1.out;omega,by go_num,by rw[List.length_set,<- h6.out],h3.out⟩
       ·have h3:=Kh (h9.out (l.getD q default) w2 (by rw[putC,<- a3.out,if_neg (by simp),if_neg (by rw[<- HZ.out];exact hz0)]) rfl (by rw[h4.out];exact h5.out) (zN _ _))
        rw[h4.out]at h3
        go_wp2
        go_roundg (m - (s+1))
        case measure=>have:=H1.out;omega
        case rel=>exact⟨s+1,_,_,l,by have:=H1.out;omega,by go_num,by rw[<- h6.out],h3.out⟩
     ·have e3:Sem.run Try.prog (Instr.lookup 129 (.map (some mb)) (.string U) true) wr=.ok (.tuple #[.int .i64 0,.bool false]) wr:=by
       rw[numC_not hmem]at H4
       rw[HU.out];exact H4
      have d2:=Kh hmem
      have e1:l.length<=s:=h7.out.cls.len_le
      clear H4 hmem
      obtain⟨n0,e0⟩:∃ n,n=l.length:=⟨_,rfl⟩
      have b7:=Kh e0
      rw[<- e0]at e1 ⊢
      clear e0
      go_upto_region 17 with (first|(at_mapUpdate;refine kO i1.out rfl _ _ _ rfl mb u c (numC l) (M s) n0 rfl ?k1 rfl H5.out (by have:=f3.out;unfold maxLen;omega) (a1.out s) (by omega) ?_;(case k1=>(show _=Value.string (mT (M s));rw[<- HU.out];rfl));intro w8 g4 d5)|fail)
      have b0:(Value.slice sa n0 sd).ownBlock≠some mb:=by rw[b7.out];exact xU (es:=#[]) (clock:=0) h7.out.own H5.out.obj
      have a5:w8.ownsRow w.heap.size 99 3 (.slice sa n0 sd) n0 (vY l):=by
       have:=h7.out.own.kept d5 (.inr (by rw[<- b7.out];exact fun e=>b0 e))
       rwa [<- b7.out]at this
      have g3:MapK 9 (fun m:List Bool=>m.length=np) (fun m=>.string (mT m)) w8 mb (u+1) (if (numC l (M s)).isSome=true then c else c+1) (numC (l ++ [⟨M s,-1,-1⟩])):=by
       rw[<- numC_snoc (c:=⟨M s,-1,-1⟩) d2.out,<- b7.out];exact g4
      have e7:=zB h7.out.gr d5 (fun k e=>by have e:mb=k:=Oj e;have:=h7.out.mlo;omega)
      have c9:=b4.kept d5 (fun e=>by have e:mb=tb:=Oj e;obtain⟨es,cl,hb⟩:=H5.out.obj;obtain⟨cs,r,g7,_⟩:=id b4;rw[<- e,hb]at g7;simp at g7)
      have e9:(convert 106 9 (.slice (some ⟨tb,0,none⟩) np np)).run Try.prog w8=.ok (.string U) w8:=by
       rw[HU.out];exact nI 106 5 Try.underlying106 Try.underlying5 9 Try.underlying9 np np (by rw[eL,uU,a1.out]) c9
      have H8:=Kh a5;have i0:=Kh g3;have i2:=Kh e7;have d1:=Kh b0
      have i5:=e7.size
      clear g4 d5 a5 g3 e7 c7 e3 c9 b0 b4
      go_upto_region 18 with (first|(at_builtin;refine sQ rfl _ _ _ rfl fW w.heap.size (.slice sa n0 sd) n0 (vY l) rfl H8.out [.string U,.int .i64 (-1),.int .i64 (-1)] rfl rfl ?z1 ?z2 ?z3 ?z4 ?_;(case z1=>(intro v hv;simp only[List.mem_cons,List.not_mem_nil,or_false]at hv;rcases hv with rfl|rfl|rfl <;> rfl));(case z2=>(unfold maxLen;omega));(case z3=>(show (n0+1) * 32<=140737488355328;omega));(case z4=>exact i5);intro sv cv wM a4 e6 j2)|fail)
      obtain⟨l9,b3⟩:∃ l9,l9=l ++ [(⟨M s,-1,-1⟩:ClaV)]:=⟨_,rfl⟩
      have j7:=Kh b3
      have b2:l9.length=n0+1:=by rw[b3,List.length_append,b7.out];rfl
      have a0:Hid (ClS w mb np M A s (s+1) sv cv l9 wM):=Kh ⟨by
       rw[b2,b3,mR,show cval ⟨M s,-1,-1⟩=[.string U,.int .i64 (-1),.int .i64 (-1)] by rw[HU.out];rfl]
       exact a4,⟨u+1,_,by have:=f3.out;omega,by rw[b3];exact i0.out.kept e6 d1.out⟩,by rw[b3];exact h7.out.cls.new d2.out,zB i2.out e6 (fun k e=>(H8.out.lt k e).1),h7.out.mlo⟩
      have c2:Hid (n0 < l9.length):=Kh (by omega)
      have d7:Hid ((l9.getD n0 default).m=M s):=Kh (by
       rw[b3,List.getD_eq_getElem?_getD,b7.out];simp)
      have j8:=Kh a0.out.gr
      clear a4 e6 j2 e9 b3 H8 i0 i2 d1 h7 H5
      rw[show (n0+1:Nat)=l9.length from b2.symm]
      have e2:l9.length<=4000:=by omega
      obtain⟨q,hq⟩:∃ q,q=n0:=⟨_,rfl⟩
      rw[<- hq]at c2 d7 ⊢
      clear b2 hq b7 j7
      obtain⟨nl,a9⟩:∃ n,n=l9.length:=⟨_,rfl⟩
      have h6:=Kh a9
      rw[<- a9]at e2 c2 ⊢
      have H0:=c2.out
      clear a9
      obtain⟨ab,b5⟩:∃ b,b=A s:=⟨_,rfl⟩
      have d3:Hid (∀ W:World,wM.grownBy W none->Calls Try.prog 69 #[.pointer (some ⟨o,0,none⟩),.int .i64 (s:Int),.int .i64 (np:Int)] W fun e w'=>e=.returned (.bool ab)/\W.grownBy w' none):=Kh (fun W hW=>by
       have:=a2.out W s np (zB j8.out hW (by simp)) hs f8.out
       rwa [f9.out s,<- b5]at this)
      have a3:=Kh b5
      clear b5
      go_wp2_with fail
      refine(d3.out _ (zN _ _)).mono ?_
      rintro e w2 ⟨rfl,H9⟩
      have h8:=a0.out.grow H9
      have h2:=h8.own
      rw[<- h6.out]at h2
      obtain⟨gb,rfl,f2,c8⟩:=iU h2 (by omega)
      have j0:cv<=9223372036854775807:=by unfold maxLen at c8;omega
      obtain⟨cy,cn,fy,fn⟩:=cO h2 (i:=q) (by rw[<- h6.out];exact H0)
      have f6:=Kh (jN l9 q (s:Int) (by rw[<- h6.out];exact H0))
      have f7:=Kh (fZ l9 q (s:Int) (by rw[<- h6.out];exact H0))
      have b6:=Kh (h8.cls.put (by rw[<- h6.out];exact H0) d7.out)
      obtain⟨y,hy⟩:∃ y,y=(l9.getD q default).yes:=⟨_,rfl⟩
      obtain⟨z,hz⟩:∃ z,z=(l9.getD q default).no:=⟨_,rfl⟩
      rw[<- hy]at cy
      rw[<- hz]at cn
      have HY:=Kh hy;have HZ:=Kh hz
      have H7:=Kh h8;have h5:=Kh h2
      have e5:gb < w2.heap.size:=(h2.lt gb rfl).2
      have e4:w.heap.size<=gb:=(h2.lt gb rfl).1
      have i8:(q:Int) < nl:=by omega
      clear H9 h8 h2 hy hz f2 c8 a0
      have h9:Hid (∀ (x:ClaV) (W:World),putC (l9.getD q default) (A s) s=x->(x.m=(l9.getD q default).m)->W.ownsRow w.heap.size 99 3 (.slice (some ⟨gb,0,none⟩) nl cv) nl (vY (l9.set q x))->w2.grownBy W (some gb)->ClS w mb np M A (s+1) (s+1) (some ⟨gb,0,none⟩) cv (l9.set q x) W):=Kh (fun x W hx hxm ho hg=>by
       obtain⟨u3,c3,d8,c6⟩:=H7.out.map
       refine⟨by rw[List.length_set,<- h6.out];exact ho,⟨u3,c3,d8,?_⟩,by have:=b6.out;rw[hx]at this;exact this,zB H7.out.gr hg (fun k e=>by have e:gb=k:=Oj e;omega),H7.out.mlo⟩
       rw[aH (by rw[<- h6.out];exact H0) hxm]
       exact c6.kept hg (fun e=>xU (es:=#[]) (clock:=0) H7.out.own c6.obj (by rw[<- e];rfl)))
      have h4:Hid (l9.set q (l9.getD q default)=l9):=Kh (by
       rw[zF (by rw[<- h6.out];exact H0)]
       exact List.set_getElem_self _)
      cases ab with
      | true =>
       by_cases hy0:y < 0
       ·have h0:=uT (i:=q * 3+1) h5.out (.int .i64 (s:Int))
        rw[f6.out]at h0
        have h3:=Kh (h9.out ⟨(l9.getD q default).m,(s:Int),(l9.getD q default).no⟩ _ (by rw[putC,if_pos a3.out.symm,if_pos (by rw[<- HY.out];exact hy0)]) rfl h0 (zC w2 ⟨gb,q * 3+1,none⟩ _))
        clear h0
        go_wp2
        go_roundg (m - (s+1))
        case measure=>have:=H1.out;omega
        case rel=>exact⟨s+1,_,_,l9.set q ⟨(l9.getD q default).m,(s:Int),(l9.getD q default).no⟩,by have:=H1.out;omega,by go_num,by rw[List.length_set,<- h6.out],h3.out⟩
       ·have h3:=Kh (h9.out (l9.getD q default) w2 (by rw[putC,if_pos a3.out.symm,if_neg (by rw[<- HY.out];exact hy0)]) rfl (by rw[h4.out];exact h5.out) (zN _ _))
        rw[h4.out]at h3
        go_wp2
        go_roundg (m - (s+1))
        case measure=>have:=H1.out;omega
        case rel=>exact⟨s+1,_,_,l9,by have:=H1.out;omega,by go_num,by rw[<- h6.out],h3.out⟩
      | false =>
       by_cases hz0:z < 0
       ·have h0:=uT (i:=q * 3+2) h5.out (.int .i64 (s:Int))
        rw[f7.out]at h0
        have h3:=Kh (h9.out ⟨(l9.getD q default).m,(l9.getD q default).yes,(s:Int)⟩ _ (by rw[putC,<- a3.out,if_neg (by simp),if_pos (by rw[<- HZ.out];exact hz0)]) rfl h0 (zC w2 ⟨gb,q * 3+2,none⟩ _))
        clear h0
        go_wp2
        go_roundg (m - (s+1))
        case measure=>have:=H1.out;omega
        case rel=>exact⟨s+1,_,_,l9.set q ⟨(l9.getD q default).m,(l9.getD q default).yes,(s:Int)⟩,by have:=H1.out;omega,by go_num,by rw[List.length_set,<- h6.out],h3.out⟩
       ·have h3:=Kh (h9.out (l9.getD q default) w2 (by rw[putC,<- a3.out,if_neg (by simp),if_neg (by rw[<- HZ.out];exact hz0)]) rfl (by rw[h4.out];exact h5.out) (zN _ _))
        rw[h4.out]at h3
        go_wp2
        go_roundg (m - (s+1))
        case measure=>have:=H1.out;omega
        case rel=>exact⟨s+1,_,_,l9,by have:=H1.out;omega,by go_num,by rw[<- h6.out],h3.out⟩
  ·have i6:s=m:=by have:=H1.out;omega
   have i7:¬ (s:Int) < m:=by omega
   subst i6
   go_wp2
   go_ret
   exact⟨l,sa,sd,rfl,h7.out.own,h7.out.cls,h7.out.gr⟩
end Go.Proofs.Ytjfdomfendbhfaa
