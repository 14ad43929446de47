/- Part 17 of the proof. -/
import Derived.Test.YtjfdomfendbhfaaQf16
set_option linter.unusedVariables false
set_option linter.unusedSimpArgs false
set_option maxRecDepth 100000
set_option maxHeartbeats 16000000
namespace Go.Proofs.Ytjfdomfendbhfaa
open Go.RowKit Go.Maps
theorem fillL_stay {l:List Nat}{np j:Nat}(h:l.length=np)(hj:j<np)(h0:l.getD j 0=0):pV l np (j+1)=pV l np j:=by
 rw[<- jL h hj,h0];refine List.ext_getElem (by simp) fun i h1 h2=>?_;rw[List.getElem_set]
 split
 ·rename_i e;subst e
  have hl:(l.take j).length=j:=by rw[List.length_take];omega
  have:(pV l np j)[j]?=some 0:=by
   unfold pV;rw[List.getElem?_append_right (by omega),hl,Nat.sub_self];rw[List.getElem?_replicate];rw[if_pos (by omega)]
  rw[List.getElem?_eq_getElem (by simpa using h2)]at this;exact(Oj this).symm
 ·rfl
theorem qDB {base:Nat}{w:World}{g cap n:Nat}{l:List ClaV}(h:w.ownsRow base 99 3 (.slice (some ⟨g,0,none⟩) n cap) n (tZ l)){i:Nat}(hi:i<l.length):
  w.cell? ⟨g,i * 3+1,none⟩=some (.int .i64 (l.getD i default).yes)/\w.cell? ⟨g,i * 3+2,none⟩=some (.int .i64 (l.getD i default).no)/\w.frozen? ⟨g,i * 3+1,none⟩=false/\w.frozen? ⟨g,i * 3+2,none⟩=false:=by
 have h0:∀ g j,(⟨g,0,none⟩:Addr).add j=⟨g,j,none⟩:=fun g j=>by unfold Addr.add;split<;>simp_all
 have c1:=h.cells (g:=g) rfl _ _ (pW l i hi).2.1;have c2:=h.cells (g:=g) rfl _ _ (pW l i hi).2.2;rw[h0]at c1 c2;rcases h.2 with ⟨hv,_⟩|⟨g',cap',cur,hv,hb,hg,hnc,hcm,hcs,htake⟩
 ·simp at hv
 ·simp only[Value.slice.injEq,Option.some.injEq,Addr.mk.injEq]at hv
  obtain⟨⟨rfl,_⟩,_,rfl⟩:=hv;rw[zG hi];exact⟨c1,c2,frozen_of_row w g _ _ _ hg,frozen_of_row w g _ _ _ hg⟩
theorem bM {w:World}{base e n sc:Nat}{sa:Option Addr}{xs:List Value}(h:w.ownsRow base e 3 (.slice sa n sc) n xs)(hn:0<n):∃ kb,sa=some ⟨kb,0,none⟩/\n<=sc/\sc<=maxLen:=by
 rcases h.2 with ⟨h',h0⟩|⟨g,cap,cur,h1,hb,hg,hnc,hcm,_⟩
 ·omega
 ·simp only[Value.slice.injEq]at h1
  obtain⟨rfl,-,rfl⟩:=h1;exact⟨g,rfl,hnc,hcm⟩
def qHZ (w:World)(ds:List DfaV)(np:Nat)(L:List (List Nat))(e:Ending)(w':World):Prop :=
 ∃ l sa sc,e=.returned (.slice sa (l:List ClaV).length sc)/\w'.ownsRow w.heap.size 99 3 (.slice sa l.length sc) l.length (tZ l)/\ClsI (fun s=>mtsT ds np (L.getD s [])) (fun s=>accT ds (L.getD s []) np) L.length L.length l/\w.grownBy w' none
structure ClS (w:World)(mb np:Nat)(M:Nat->List Bool)(A:Nat->Bool)(s t:Nat)(sa:Option Addr)(sc:Nat)(l:List ClaV)(wr:World):Prop where
 own:wr.ownsRow w.heap.size 99 3 (.slice sa l.length sc) l.length (tZ l)
 map:∃ u c,u<=t/\MapK 9 (fun m:List Bool=>m.length=np) (fun m=>.string (mT m)) wr mb u c (numC l)
 cls:ClsI M A s t l
 gr:w.grownBy wr none
 mlo:w.heap.size<=mb
section
variable {w wr w':World} {mb np s t:Nat} {M:Nat->List Bool} {A:Nat->Bool} {sa:Option Addr} {sc:Nat} {l:List ClaV}
theorem ClS.grow (h:ClS w mb np M A s t sa sc l wr)(hg:wr.grownBy w' none):ClS w mb np M A s t sa sc l w':=by
 obtain⟨u,c,hu,hm⟩:=h.map;exact⟨zQ h.own hg,⟨u,c,hu,hm.kept hg (by simp)⟩,h.cls,zB h.gr hg (by simp),h.mlo⟩
theorem ClS.bytes (h:ClS w mb np M A s t sa sc l wr){tb:Nat}{xs:List Value}(ha:Arr wr tb 5 xs)(hlo:w.heap.size<=tb)(hg:wr.grownBy w' (some tb)):ClS w mb np M A s t sa sc l w':=by
 obtain⟨u,c,hu,hm⟩:=h.map;obtain⟨cs,r,hb,_⟩:=id ha;have h1:(Value.slice sa l.length sc).ownBlock≠some tb:=fun e=>zS h.own hb (by decide) e;refine⟨h.own.kept hg (.inr (fun e=>h1 e)),⟨u,c,hu,hm.kept hg (fun e=>?_)⟩,h.cls,zB h.gr hg (fun k e=>by have e:tb=k:=Oj e;omega),h.mlo⟩;have e:tb=mb:=Oj e;obtain⟨es,clock,h0⟩:=hm.obj;rw[<- e,hb]at h0;simp at h0
end
theorem prodClasses_any (Bd:Nat)(w:World)(o k:Nat)(pv:Value)(ds:List DfaV)(L:List (List Nat))(nxl fr bl:List Nat)(sb sc nb nc fb fc bb bc np:Nat)(hBd:Bd<=w.heap.size)(h:ProdV w o k pv L nxl fr bl sb sc nb nc fb fc bb bc)(hd:DsIn Bd w pv ds)(hok:OkT ds k)(hnp:ds.length=np+1)(hin:∀ s,s<L.length->InT ds (L.getD s []))(hl:ds.length<=400)(hL:L.length<=4000):
  Calls Try.prog 59 #[.pointer (some ⟨o,0,none⟩),.int .i64 (np:Int)] w (qHZ w ds np L):=by
 have a2:Hid (∀ (W:World) (s i:Nat),w.grownBy W none->s<L.length->i<ds.length->Calls Try.prog 69 #[.pointer (some ⟨o,0,none⟩),.int .i64 (s:Int),.int .i64 (i:Int)] W fun e w'=>e=.returned (.bool (accT ds (L.getD s []) i))/\W.grownBy w' none):=Kh (fun W s i hW hs hi=>iU Bd W o k pv ds L nxl fr bl sb sc nb nc fb fc bb bc s i (h.grow hW) (hd.kept hW (by simp)) hok hs hi (hin s hs) hl hL);obtain⟨M,hM⟩:∃ M:Nat->List Bool,M=fun s=>mtsT ds np (L.getD s []):=⟨_,rfl⟩;obtain⟨A,hA⟩:∃ A:Nat->Bool,A=fun s=>accT ds (L.getD s []) np:=⟨_,rfl⟩;have a1:Hid (∀ s,(M s).length=np):=Kh (fun s=>by rw[hM];exact oI _ _ _);have j6:Hid (∀ s i,i<np->accT ds (L.getD s []) i=(M s).getD i false):=Kh (fun s i hi=>by rw[hM];exact(jE hi).symm);have f9:Hid (∀ s,accT ds (L.getD s []) np=A s):=Kh (fun s=>by rw[hA]);have i1:=Kh (key_mT (n:=np) (by omega));have f5:Hid (qHZ w ds np L=fun e w'=>∃ l sa sc,e=.returned (.slice sa (l:List ClaV).length sc)/\w'.ownsRow w.heap.size 99 3 (.slice sa l.length sc) l.length (tZ l)/\ClsI M A L.length L.length l/\w.grownBy w' none):=Kh (by rw[hM,hA];rfl);rw[f5.out];obtain⟨x0,x1,x2,x3,x4,x5⟩:=h.cells;have f0:=h.caps;obtain⟨m,hm⟩:∃ m,m=L.length:=⟨_,rfl⟩;have i9:np<=400:=by omega
 have f8:Hid (np<ds.length):=Kh (by omega);rw[<- hm]at x2 f0 a2 hL ⊢;have k2:sc<=9223372036854775807:=by have:=f0.2.1;unfold maxLen at this;omega
 have j1:=@run_makeMap Try.prog;have j5:Hid (∀ W:World,(Instr.makeSlice 106 (.int .i64 (np:Int)) (.int .i64 (np:Int))).run Try.prog W=.ok (.slice (some ⟨W.heap.size,0,none⟩) np np) (W.alloc (.cells (madeCells #[.int .u8 0] np) 5))):=Kh (fun W=>run_make_row' 106 5 (.int .u8 0) 1 Try.underlying106 (by kernel_rfl) rfl .i64 .i64 np (by omega) (by omega) W);clear h hd hok hM hA hin f0 hm x0 x1 x3 x4 x5 hnp hl;go_enter Try.func59,Try.ntmps59;go_upto_region 3 with fail;obtain⟨mb,g2⟩:∃ b,b=w.heap.size:=⟨_,rfl⟩;obtain⟨w1,b9⟩:∃ w1,w1=w.alloc (.map #[] 0):=⟨_,rfl⟩;have H2:=MapK.made 9 (fun m:List Bool=>m.length=np) (fun m=>.string (mT m)) w;have a6:=Ga w (.map #[] 0) none;rw[<- b9]at H2 a6 ⊢;rw[<- g2]at H2 ⊢;have g9:Hid (ClS w mb np M A 0 0 none 0 [] w1):=Kh ⟨World.ownsRow_nil _ _ _ _,⟨0,0,Nat.le_refl _,H2⟩,ClsI.nil M A,a6,by omega⟩;have x2:=xG x2 a6;clear H2 b9 g2 a6 j1;go_wp2
 go_loopg [5,7,8,9,10,11,12,19] m (fun gh v5 v7 v8 v9 v10 v11 v12 v19 wr=>∃ (s:Nat) (sa:Option Addr) (sd:Nat) (l:List ClaV),gh+s=m/\v19=.int .i64 s/\v5=.slice sa l.length sd/\ClS w mb np M A s s sa sd l wr)
 case atStart=>exact⟨0,none,0,[],rfl,rfl,rfl,g9.out⟩
 case round =>
  clear g9;obtain⟨s,sa,sd,l,g5,rfl,rfl,H6⟩:=hrel;have H1:=Kh g5;have h7:=Kh H6;clear g5 x2 w1;by_cases hs:s<m
  ·have i7:(s:Int)<m:=by omega
   have g1:=j5.out wr;obtain⟨tb,d9⟩:∃ b,b=wr.heap.size:=⟨_,rfl⟩;obtain⟨w1,b9⟩:∃ w1,w1=wr.alloc (.cells (madeCells #[.int .u8 0] np) 5):=⟨_,rfl⟩;have a6:=Ga wr (.cells (madeCells #[.int .u8 0] np) 5) none;have d0:=Arr.new wr 5 (madeCells #[.int .u8 0] np);rw[show (madeCells #[.int .u8 0] np).toList=List.replicate np (.int .u8 0) by have:=pU (z:=.int .u8 0) rfl np;rw[Nat.mul_one]at this;exact this]at d0;rw[<- b9,<- d9]at g1;rw[<- b9]at a6 d0;rw[<- d9]at d0;have j3:w.heap.size<=tb:=by have:=H6.gr.size;omega
   have g8:=Kh (H6.grow a6);have i4:=Kh d0;clear H6 a6 d0 b9 d9 h7;go_wp2;clear g1
   go_loopg [9,26] np (fun gh v9 v26 wr=>∃ i:Nat,gh+i=np/\v26=.int .i64 i/\Arr wr tb 5 (u8s (pV (mN (M s)) np i))/\ClS w mb np M A s s sa sd l wr)
   case atStart=>exact⟨0,rfl,rfl,by rw[iF,u8s_replicate];exact i4.out,g8.out⟩
   case round =>
    clear i4 g8 w1;obtain⟨i,g6,rfl,c0,H6⟩:=hrel;have c4:=Kh g6;clear g6;by_cases hi:i<np
    ·have j4:(i:Int)<np:=by omega
     have hg:=H6.gr;have h7:=Kh H6;have i3:=Kh c0;have H3:=a2.out wr s i hg hs (by have:=f8.out;omega);rw[j6.out s i hi]at H3;have b8:Hid ((mN (M s)).getD i 0=if (M s).getD i false=true then 1 else 0):=Kh (mN_get (by rw[a1.out];exact hi));obtain⟨b,hb⟩:∃ b,b=(M s).getD i false:=⟨_,rfl⟩;rw[<- hb]at H3 b8;have a7:=Kh H3;clear H3 hb hg c0 H6;go_wp2_with fail;refine a7.out.mono ?_;rintro e w2 ⟨rfl,H9⟩;have c5:=Kh (i3.out.kept H9 (by simp));have a0:=Kh (h7.out.grow H9);clear H9 a7 i3 h7;cases b with
     | false =>
      have HE:=Kh (fillL_stay (l:=mN (M s)) (np:=np) (j:=i) (by rw[rD,a1.out]) hi b8.out);go_wp2;go_roundg (np - (i+1))
      case measure=>have:=c4.out;omega
      case rel=>exact⟨i+1,by have:=c4.out;omega,by go_num,by rw[HE.out];exact c5.out,a0.out⟩
     | true =>
      have HE:=Kh (jL (l:=mN (M s)) (np:=np) (j:=i) (by rw[rD,a1.out]) hi);rw[b8.out]at HE;have e8:(pV (mN (M s)) np i).length=np:=pD (by rw[rD,a1.out]) (by omega);have c1:=aJ c5.out i (by rw[e8];exact hi);have f1:=c5.out.frozen i;have a8:=c5.out.set i (by rw[cJ,e8];exact hi) (.int .u8 1);rw[show (u8s (pV (mN (M s)) np i)).set i (.int .u8 1)=u8s (pV (mN (M s)) np (i+1)) by rw[<- HE.out];exact fE _ i 1]at a8;have f4:=Kh a8;have H7:=Kh (a0.out.bytes c5.out j3 (zC w2 ⟨tb,i,none⟩ (.int .u8 1)));have j9:=c5.out.lt;clear a8 e8;go_wp2;go_roundg (np - (i+1))
      case measure=>have:=c4.out;omega
      case rel=>exact⟨i+1,by have:=c4.out;omega,by go_num,f4.out,H7.out⟩
    ·have hin:i=np:=by have:=c4.out;omega
     have j4:¬ (i:Int)<np:=(by omega);rw[eW (by rw[rD,a1.out]) hin]at c0;have b4:=c0;have d6:∀ W:World,wr.grownBy W none->(convert 106 9 (.slice (some ⟨tb,0,none⟩) np np)).run Try.prog W=.ok (.string (mT (M s))) W:=fun W hW=>oA 106 5 Try.underlying106 Try.underlying5 9 Try.underlying9 np np (by rw[qAW,rD,a1.out]) (c0.kept hW (by simp));obtain⟨U,hU⟩:∃ U,U=mT (M s):=⟨_,rfl⟩;rw[<- hU]at d6;have c7:=d6 wr (zM _ _);have k0:=Kh d6;obtain⟨u,c,hu,b1⟩:=H6.map;have H4:=b1.lookup i1.out (x:=M s) (a1.out s);have HU:=Kh hU;have f3:=Kh hu;have H5:=Kh b1;have h7:=Kh H6;have HA:=Kh (f9.out s)
     have d4:Hid (∀ W:World,wr.grownBy W none->Calls Try.prog 69 #[.pointer (some ⟨o,0,none⟩),.int .i64 (s:Int),.int .i64 (np:Int)] W fun e w'=>e=.returned (.bool (A s))/\W.grownBy w' none):=Kh (fun W hW=>by
      have:=a2.out W s np (zB H6.gr hW (by simp)) hs f8.out
      rwa [f9.out s]at this)
     clear hU hu b1 d6 c0 hin c4 H6 HA;by_cases hmem:M s∈l.map ClaV.m
     ·obtain⟨q,hq⟩:∃ q,q=(l.map ClaV.m).idxOf (M s):=⟨_,rfl⟩
      have H0:q<l.length:=by have:=List.idxOf_lt_length_of_mem hmem;rw[<- hq,List.length_map]at this;exact this
      have g0:(l.getD q default).m=M s:=by
       rw[zG H0];have h1:=List.getElem_idxOf (x:=M s) (xs:=l.map ClaV.m) (by rw[<- hq,List.length_map];exact H0);simp only[<- hq,List.getElem_map]at h1;exact h1
      have e3:Sem.run Try.prog (Instr.lookup 129 (.map (some mb)) (.string U) true) wr=.ok (.tuple #[.int .i64 (q:Int),.bool true]) wr:=by
       rw[numC_of_mem hmem,<- hq]at H4;rw[HU.out];exact H4
      have a0:Hid (ClS w mb np M A s (s+1) sa sd l wr):=Kh ⟨h7.out.own,⟨u,c,Nat.le_succ_of_le f3.out,H5.out⟩,h7.out.cls.old hmem,h7.out.gr,h7.out.mlo⟩;have e2:l.length<=4000:=by have:=h7.out.cls.len_le;omega
      have c2:=Kh H0;have d7:=Kh g0;clear H4 hq g0 hmem H5 h7 H0;obtain⟨nl,a9⟩:∃ n,n=l.length:=⟨_,rfl⟩;have h6:=Kh a9;rw[<- a9]at e2 c2 ⊢;have H0:=c2.out;clear a9;obtain⟨ab,b5⟩:∃ b,b=A s:=⟨_,rfl⟩;rw[<- b5]at d4;have a3:=Kh b5;clear b5;go_wp2_with fail;clear e3 c7;refine(d4.out _ (zM _ _)).mono ?_;rintro e w2 ⟨rfl,H9⟩;have h8:=a0.out.grow H9;have h2:=h8.own;rw[<- h6.out]at h2;obtain⟨gb,rfl,f2,c8⟩:=bM h2 (by omega);have j0:sd<=9223372036854775807:=by unfold maxLen at c8;omega
      obtain⟨cy,cn,fy,fn⟩:=qDB h2 (i:=q) (by rw[<- h6.out];exact H0);have f6:=Kh (dC l q (s:Int) (by rw[<- h6.out];exact H0));have f7:=Kh (qAN l q (s:Int) (by rw[<- h6.out];exact H0));have b6:=Kh (h8.cls.put (by rw[<- h6.out];exact H0) d7.out);obtain⟨y,hy⟩:∃ y,y=(l.getD q default).yes:=⟨_,rfl⟩;obtain⟨z,hz⟩:∃ z,z=(l.getD q default).no:=⟨_,rfl⟩;rw[<- hy]at cy;rw[<- hz]at cn;have HY:=Kh hy;have HZ:=Kh hz;have H7:=Kh h8;have h5:=Kh h2;have e5:gb<w2.heap.size:=(h2.lt gb rfl).2;have e4:w.heap.size<=gb:=(h2.lt gb rfl).1;have i8:(q:Int)<nl:=(by omega);clear H9 h8 h2 hy hz f2 c8 a0
      have h9:Hid (∀ (x:ClaV) (W:World),putC (l.getD q default) (A s) s=x->(x.m=(l.getD q default).m)->W.ownsRow w.heap.size 99 3 (.slice (some ⟨gb,0,none⟩) nl sd) nl (tZ (l.set q x))->w2.grownBy W (some gb)->ClS w mb np M A (s+1) (s+1) (some ⟨gb,0,none⟩) sd (l.set q x) W):=Kh (fun x W hx hxm ho hg=>by
       obtain⟨u3,c3,d8,c6⟩:=H7.out.map;refine⟨by rw[List.length_set,<- h6.out];exact ho,⟨u3,c3,d8,?_⟩,by have:=b6.out;rw[hx]at this;exact this,zB H7.out.gr hg (fun k e=>by have e:gb=k:=Oj e;omega),H7.out.mlo⟩;rw[qEU (by rw[<- h6.out];exact H0) hxm]
       exact c6.kept hg (fun e=>yX (es:=#[]) (clock:=0) H7.out.own c6.obj (by rw[<- e];rfl)))
      have h4:Hid (l.set q (l.getD q default)=l):=Kh (by
       rw[zG (by rw[<- h6.out];exact H0)]
       exact List.set_getElem_self _)
      cases ab with
      | true =>
       by_cases hy0:y<0
       ·have h0:=rC (i:=q * 3+1) h5.out (.int .i64 (s:Int))
        rw[f6.out]at h0;have h3:=Kh (h9.out ⟨(l.getD q default).m,(s:Int),(l.getD q default).no⟩ _ (by rw[putC,if_pos a3.out.symm,if_pos (by rw[<- HY.out];exact hy0)]) rfl h0 (zC w2 ⟨gb,q * 3+1,none⟩ _));clear h0;go_wp2;go_roundg (m - (s+1))
        case measure=>have:=H1.out;omega
        case rel=>exact⟨s+1,_,_,l.set q ⟨(l.getD q default).m,(s:Int),(l.getD q default).no⟩,by have:=H1.out;omega,by go_num,by rw[List.length_set,<- h6.out],h3.out⟩
       ·have h3:=Kh (h9.out (l.getD q default) w2 (by rw[putC,if_pos a3.out.symm,if_neg (by rw[<- HY.out];exact hy0)]) rfl (by rw[h4.out];exact h5.out) (zM _ _))
        rw[h4.out]at h3;go_wp2;go_roundg (m - (s+1))
        case measure=>have:=H1.out;omega
        case rel=>exact⟨s+1,_,_,l,by have:=H1.out;omega,by go_num,by rw[<- h6.out],h3.out⟩
      | false =>
       by_cases hz0:z<0
       ·have h0:=rC (i:=q * 3+2) h5.out (.int .i64 (s:Int))
        rw[f7.out]at h0;have h3:=Kh (h9.out ⟨(l.getD q default).m,(l.getD q default).yes,(s:Int)⟩ _ (by rw[putC,<- a3.out,if_neg (by simp),if_pos (by rw[<- HZ.out];exact hz0)]) rfl h0 (zC w2 ⟨gb,q * 3+2,none⟩ _));clear h0;go_wp2;go_roundg (m - (s+1))
        case measure=>have:=H1.out;omega
        case rel=>exact⟨s+1,_,_,l.set q ⟨(l.getD q default).m,(l.getD q default).yes,(s:Int)⟩,by have:=H1.out;omega,by go_num,by rw[List.length_set,<- h6.out],h3.out⟩
       ·have h3:=Kh (h9.out (l.getD q default) w2 (by rw[putC,<- a3.out,if_neg (by simp),if_neg (by rw[<- HZ.out];exact hz0)]) rfl (by rw[h4.out];exact h5.out) (zM _ _))
        rw[h4.out]at h3;go_wp2;go_roundg (m - (s+1))
        case measure=>have:=H1.out;omega
        case rel=>exact⟨s+1,_,_,l,by have:=H1.out;omega,by go_num,by rw[<- h6.out],h3.out⟩
     ·have e3:Sem.run Try.prog (Instr.lookup 129 (.map (some mb)) (.string U) true) wr=.ok (.tuple #[.int .i64 0,.bool false]) wr:=by
       rw[numC_not hmem]at H4;rw[HU.out];exact H4
      have d2:=Kh hmem;have e1:l.length<=s:=h7.out.cls.len_le;clear H4 hmem;obtain⟨n0,e0⟩:∃ n,n=l.length:=⟨_,rfl⟩;have b7:=Kh e0;rw[<- e0]at e1 ⊢;clear e0;go_upto_region 17 with (first|(at_mapUpdate;refine nH i1.out rfl _ _ _ rfl mb u c (numC l) (M s) n0 rfl ?k1 rfl H5.out (by have:=f3.out;unfold maxLen;omega) (a1.out s) (by omega) ?_;(case k1=>(show _=Value.string (mT (M s));rw[<- HU.out];rfl));intro w8 g4 d5)|fail)
      have b0:(Value.slice sa n0 sd).ownBlock≠some mb:=by rw[b7.out];exact yX (es:=#[]) (clock:=0) h7.out.own H5.out.obj
      have a5:w8.ownsRow w.heap.size 99 3 (.slice sa n0 sd) n0 (tZ l):=by
       have:=h7.out.own.kept d5 (.inr (by rw[<- b7.out];exact fun e=>b0 e))
       rwa [<- b7.out]at this
      have g3:MapK 9 (fun m:List Bool=>m.length=np) (fun m=>.string (mT m)) w8 mb (u+1) (if (numC l (M s)).isSome=true then c else c+1) (numC (l++[⟨M s,-1,-1⟩])):=by
       rw[<- numC_snoc (c:=⟨M s,-1,-1⟩) d2.out,<- b7.out];exact g4
      have e7:=zB h7.out.gr d5 (fun k e=>by have e:mb=k:=Oj e;have:=h7.out.mlo;omega);have c9:=b4.kept d5 (fun e=>by have e:mb=tb:=Oj e;obtain⟨es,cl,hb⟩:=H5.out.obj;obtain⟨cs,r,g7,_⟩:=id b4;rw[<- e,hb]at g7;simp at g7)
      have e9:(convert 106 9 (.slice (some ⟨tb,0,none⟩) np np)).run Try.prog w8=.ok (.string U) w8:=by
       rw[HU.out];exact oA 106 5 Try.underlying106 Try.underlying5 9 Try.underlying9 np np (by rw[qAW,rD,a1.out]) c9
      have H8:=Kh a5;have i0:=Kh g3;have i2:=Kh e7;have d1:=Kh b0;have i5:=e7.size;clear g4 d5 a5 g3 e7 c7 e3 c9 b0 b4;go_upto_region 18 with (first|(at_builtin;refine uR rfl _ _ _ rfl qAJ w.heap.size (.slice sa n0 sd) n0 (tZ l) rfl H8.out [.string U,.int .i64 (-1),.int .i64 (-1)] rfl rfl ?z1 ?z2 ?z3 ?z4 ?_;(case z1=>(intro v hv;simp only[List.mem_cons,List.not_mem_nil,or_false]at hv;rcases hv with rfl|rfl|rfl<;>rfl));(case z2=>(unfold maxLen;omega));(case z3=>(show (n0+1) * 32<=140737488355328;omega));(case z4=>exact i5);intro sv cv wM a4 e6 j2)|fail)
      obtain⟨l9,b3⟩:∃ l9,l9=l++[(⟨M s,-1,-1⟩:ClaV)]:=⟨_,rfl⟩;have j7:=Kh b3;have b2:l9.length=n0+1:=by rw[b3,List.length_append,b7.out];rfl
      have a0:Hid (ClS w mb np M A s (s+1) sv cv l9 wM):=Kh ⟨by
       rw[b2,b3,iH,show cval ⟨M s,-1,-1⟩=[.string U,.int .i64 (-1),.int .i64 (-1)] by rw[HU.out];rfl]
       exact a4,⟨u+1,_,by have:=f3.out;omega,by rw[b3];exact i0.out.kept e6 d1.out⟩,by rw[b3];exact h7.out.cls.new d2.out,zB i2.out e6 (fun k e=>(H8.out.lt k e).1),h7.out.mlo⟩
      have c2:Hid (n0<l9.length):=Kh (by omega)
      have d7:Hid ((l9.getD n0 default).m=M s):=Kh (by
       rw[b3,List.getD_eq_getElem?_getD,b7.out];simp)
      have j8:=Kh a0.out.gr;clear a4 e6 j2 e9 b3 H8 i0 i2 d1 h7 H5;rw[show (n0+1:Nat)=l9.length from b2.symm];have e2:l9.length<=4000:=by omega
      obtain⟨q,hq⟩:∃ q,q=n0:=⟨_,rfl⟩;rw[<- hq]at c2 d7 ⊢;clear b2 hq b7 j7;obtain⟨nl,a9⟩:∃ n,n=l9.length:=⟨_,rfl⟩;have h6:=Kh a9;rw[<- a9]at e2 c2 ⊢;have H0:=c2.out;clear a9;obtain⟨ab,b5⟩:∃ b,b=A s:=⟨_,rfl⟩
      have d3:Hid (∀ W:World,wM.grownBy W none->Calls Try.prog 69 #[.pointer (some ⟨o,0,none⟩),.int .i64 (s:Int),.int .i64 (np:Int)] W fun e w'=>e=.returned (.bool ab)/\W.grownBy w' none):=Kh (fun W hW=>by
       have:=a2.out W s np (zB j8.out hW (by simp)) hs f8.out
       rwa [f9.out s,<- b5]at this)
      have a3:=Kh b5;clear b5;go_wp2_with fail;refine(d3.out _ (zM _ _)).mono ?_;rintro e w2 ⟨rfl,H9⟩;have h8:=a0.out.grow H9;have h2:=h8.own;rw[<- h6.out]at h2;obtain⟨gb,rfl,f2,c8⟩:=bM h2 (by omega);have j0:cv<=9223372036854775807:=by unfold maxLen at c8;omega
      obtain⟨cy,cn,fy,fn⟩:=qDB h2 (i:=q) (by rw[<- h6.out];exact H0);have f6:=Kh (dC l9 q (s:Int) (by rw[<- h6.out];exact H0));have f7:=Kh (qAN l9 q (s:Int) (by rw[<- h6.out];exact H0));have b6:=Kh (h8.cls.put (by rw[<- h6.out];exact H0) d7.out);obtain⟨y,hy⟩:∃ y,y=(l9.getD q default).yes:=⟨_,rfl⟩;obtain⟨z,hz⟩:∃ z,z=(l9.getD q default).no:=⟨_,rfl⟩;rw[<- hy]at cy;rw[<- hz]at cn;have HY:=Kh hy;have HZ:=Kh hz;have H7:=Kh h8;have h5:=Kh h2;have e5:gb<w2.heap.size:=(h2.lt gb rfl).2;have e4:w.heap.size<=gb:=(h2.lt gb rfl).1;have i8:(q:Int)<nl:=(by omega);clear H9 h8 h2 hy hz f2 c8 a0
      have h9:Hid (∀ (x:ClaV) (W:World),putC (l9.getD q default) (A s) s=x->(x.m=(l9.getD q default).m)->W.ownsRow w.heap.size 99 3 (.slice (some ⟨gb,0,none⟩) nl cv) nl (tZ (l9.set q x))->w2.grownBy W (some gb)->ClS w mb np M A (s+1) (s+1) (some ⟨gb,0,none⟩) cv (l9.set q x) W):=Kh (fun x W hx hxm ho hg=>by
       obtain⟨u3,c3,d8,c6⟩:=H7.out.map;refine⟨by rw[List.length_set,<- h6.out];exact ho,⟨u3,c3,d8,?_⟩,by have:=b6.out;rw[hx]at this;exact this,zB H7.out.gr hg (fun k e=>by have e:gb=k:=Oj e;omega),H7.out.mlo⟩;rw[qEU (by rw[<- h6.out];exact H0) hxm]
       exact c6.kept hg (fun e=>yX (es:=#[]) (clock:=0) H7.out.own c6.obj (by rw[<- e];rfl)))
      have h4:Hid (l9.set q (l9.getD q default)=l9):=Kh (by
       rw[zG (by rw[<- h6.out];exact H0)]
       exact List.set_getElem_self _)
      cases ab with
      | true =>
       by_cases hy0:y<0
       ·have h0:=rC (i:=q * 3+1) h5.out (.int .i64 (s:Int))
        rw[f6.out]at h0;have h3:=Kh (h9.out ⟨(l9.getD q default).m,(s:Int),(l9.getD q default).no⟩ _ (by rw[putC,if_pos a3.out.symm,if_pos (by rw[<- HY.out];exact hy0)]) rfl h0 (zC w2 ⟨gb,q * 3+1,none⟩ _));clear h0;go_wp2;go_roundg (m - (s+1))
        case measure=>have:=H1.out;omega
        case rel=>exact⟨s+1,_,_,l9.set q ⟨(l9.getD q default).m,(s:Int),(l9.getD q default).no⟩,by have:=H1.out;omega,by go_num,by rw[List.length_set,<- h6.out],h3.out⟩
       ·have h3:=Kh (h9.out (l9.getD q default) w2 (by rw[putC,if_pos a3.out.symm,if_neg (by rw[<- HY.out];exact hy0)]) rfl (by rw[h4.out];exact h5.out) (zM _ _))
        rw[h4.out]at h3;go_wp2;go_roundg (m - (s+1))
        case measure=>have:=H1.out;omega
        case rel=>exact⟨s+1,_,_,l9,by have:=H1.out;omega,by go_num,by rw[<- h6.out],h3.out⟩
      | false =>
       by_cases hz0:z<0
       ·have h0:=rC (i:=q * 3+2) h5.out (.int .i64 (s:Int))
        rw[f7.out]at h0;have h3:=Kh (h9.out ⟨(l9.getD q default).m,(l9.getD q default).yes,(s:Int)⟩ _ (by rw[putC,<- a3.out,if_neg (by simp),if_pos (by rw[<- HZ.out];exact hz0)]) rfl h0 (zC w2 ⟨gb,q * 3+2,none⟩ _));clear h0;go_wp2;go_roundg (m - (s+1))
        case measure=>have:=H1.out;omega
        case rel=>exact⟨s+1,_,_,l9.set q ⟨(l9.getD q default).m,(l9.getD q default).yes,(s:Int)⟩,by have:=H1.out;omega,by go_num,by rw[List.length_set,<- h6.out],h3.out⟩
       ·have h3:=Kh (h9.out (l9.getD q default) w2 (by rw[putC,<- a3.out,if_neg (by simp),if_neg (by rw[<- HZ.out];exact hz0)]) rfl (by rw[h4.out];exact h5.out) (zM _ _))
        rw[h4.out]at h3;go_wp2;go_roundg (m - (s+1))
        case measure=>have:=H1.out;omega
        case rel=>exact⟨s+1,_,_,l9,by have:=H1.out;omega,by go_num,by rw[<- h6.out],h3.out⟩
  ·have i6:s=m:=by have:=H1.out;omega
   have i7:¬ (s:Int)<m:=(by omega);subst i6;go_wp2;go_ret;exact⟨l,sa,sd,rfl,h7.out.own,h7.out.cls,h7.out.gr⟩
end Go.Proofs.Ytjfdomfendbhfaa
namespace Go.Proofs.Ytjfdomfendbhfaa
open Go.RowKit Go.Maps
def qJH (w:World)(d:DfaV)(ps:List (List ByteArray))(e:Ending)(w':World):Prop :=
 ∃ v u1 u2 E,e=.returned (.tuple #[v,.string u1,.string u2,.int .i64 E])/\OfOut w' d ps v u1 u2 E/\w.grownBy w' none
theorem mH (w:World)(c1:Array Value)(e1:Nat)(c2:Array Value)(e2:Nat):((w.alloc (.cells c1 e1)).alloc (.cells c2 e2)).heap[w.heap.size]?=some (.cells c1 e1 (0,0))/\((w.alloc (.cells c1 e1)).alloc (.cells c2 e2)).heap[w.heap.size+1]?=some (.cells c2 e2 (0,0))/\w.grownBy ((w.alloc (.cells c1 e1)).alloc (.cells c2 e2)) none/\((w.alloc (.cells c1 e1)).alloc (.cells c2 e2)).heap.size=w.heap.size+2 :=
 ⟨sO w _ _,sL w _ _,xR (Ga w _ none) _,by rw[zO,zO]⟩
theorem cof_any (Bd:Nat)(w:World)(dv pv:Value)(d:DfaV)(ps:List (List ByteArray))(hBd:Bd<=w.heap.size)(hd:uT Bd w dv d)(hp:uJ Bd w pv ps)(hp4:ps.length<=4096):
  Calls Try.prog 19 #[dv,pv] w (qJH w d ps):=by
 have e4:=hd;obtain⟨fv,nv,rfl,hf,hn⟩:=hd;obtain⟨fa,fc,rfl⟩:=hf.shape;rw[xE]at e4 hf ⊢;obtain⟨na,nc,rfl⟩:=hn.shape;obtain⟨pa,pc,rfl⟩:=hp.shape;obtain⟨np,i8⟩:∃ n,n=ps.length:=⟨_,rfl⟩;obtain⟨fl,o7⟩:∃ n,n=d.final.length:=⟨_,rfl⟩;obtain⟨nl,o1⟩:∃ n,n=d.next.length:=⟨_,rfl⟩;obtain⟨dl,k0⟩:∃ n,n=d.letters:=⟨_,rfl⟩;obtain⟨ds,o8⟩:∃ n,n=d.start:=⟨_,rfl⟩;have H0:=Kh i8;have HP:=Kh hp;have y0:=Kh k0;rw[<- i8]at hp4 HP ⊢;rw[<- o7,<- o1,<- k0,<- o8]at e4 ⊢;have HD:=Kh e4;obtain⟨e8,g5,g4,m4⟩:=mH w #[.int .i64 dl,.int .i64 ds,.slice fa fl fc,.slice na nl nc] 42 #[.slice none 0 0,.slice none 0 0,.int .i64 0] 25;obtain⟨wA,k9⟩:∃ wA,wA=(w.alloc (.cells #[.int .i64 dl,.int .i64 ds,.slice fa fl fc,.slice na nl nc] 42)).alloc (.cells #[.slice none 0 0,.slice none 0 0,.int .i64 0] 25):=⟨_,rfl⟩;rw[<- k9]at e8 g5 g4 m4;obtain⟨c0,c1,c2,c3⟩:=zF e8;obtain⟨Q,hQ⟩:∃ Q,Q=w.heap.size:=⟨_,rfl⟩;obtain⟨P,hP⟩:∃ P,P=w.heap.size+1:=⟨_,rfl⟩;have t6:=Kh hQ;have q3:Hid (P=Q+1):=Kh (by omega);have d0:Hid (w.heap.size<=P):=Kh (by omega);rw[<- hP]at g5;rw[<- hQ]at e8 c0 c1 c2 c3;have y4:=Kh e8;have y3:=Kh g5;have x8:=Kh g4;have s4:=Kh k9;have y1:=Kh (e4.kept g4 (by simp));have r9:Bd<=wA.heap.size:=by omega
 have l1:=Kh (rP Bd wA _ d r9 y1.out);obtain⟨E,hE⟩:∃ E,E=vS d:=⟨_,rfl⟩;rw[<- hE]at l1;have HE:=Kh hE;clear e8 g5 g4 k9 m4 hP hQ hf hn e4 hp i8 o7 o1 k0 o8 hE;go_enter Try.func19,Try.ntmps19;go_upto_region 1 with fail;rw[<- s4.out,<- t6.out,<- q3.out];go_wp2_with fail;refine l1.out.mono ?_;rintro e w1 ⟨rfl,b7⟩;have h4:=Kh (zB x8.out b7 (by simp));have h0:=Kh (zA y3.out b7 (by simp));have H8:=Kh (zA y4.out b7 (by simp));have y8:=Kh b7;clear b7 l1 c0 c1 c2 c3;by_cases hE0:E=0
 case neg =>
  have h6:Hid (ofE d ps=E):=Kh (by rw[ofE_bad (by rw[<- HE.out];exact hE0),HE.out]);have l5:=Kh hE0;have e1:(E != 0)=true:=by rw[bne_iff_ne];exact hE0
  clear hE0;have h2:=h0.out;have f40:=zE h2 0;have f41:=zE h2 1;have f42:=zE h2 2;have d9:=zI h2;obtain⟨v0,v1,v2⟩:=zH h2;go_wp2;have g1:=zD (zD (zC w1 ⟨P,0,none⟩ (.slice none 0 0)) (zC _ ⟨P,1,none⟩ (.slice none 0 0))) (zC _ ⟨P,2,none⟩ (.int .i64 0));have z1:=heap_setCell_same _ P 2 _ _ (.int .i64 0) (heap_setCell_same _ P 1 _ _ (.slice none 0 0) (heap_setCell_same w1 P 0 _ _ (.slice none 0 0) h2));obtain⟨w9,H7⟩:∃ w9,w9=((w1.setCell ⟨P,0,none⟩ (.slice none 0 0)).setCell ⟨P,1,none⟩ (.slice none 0 0)).setCell ⟨P,2,none⟩ (.int .i64 0):=⟨_,rfl⟩;rw[<- H7]at g1 z1 ⊢;simp only[Array.setIfInBounds,List.size_toArray,List.length_cons,List.length_nil]at z1;obtain⟨q0,q1,q2⟩:=zH z1;refine bodyPost_ret (v:=.tuple #[.agg #[.slice none 0 0,.slice none 0 0,.int .i64 0],.string ⟨#[]⟩,.string ⟨#[]⟩,.int .i64 E]) (by simp[results,Try.results19,go_sem,q0,q1,q2,Result.andThen]) rfl ?_;exact⟨_,_,_,_,rfl,(by have:=OfOut.bad (w':=w9) (d:=d) (ps:=ps) (by rw[h6.out];exact l5.out);rwa [h6.out]at this),zB h4.out g1 (fun j e=>by have e:P=j:=Oj e;have:=d0.out;omega)⟩
 case pos =>
  have g7:Hid (vS d=0):=Kh (by rw[<- HE.out];exact hE0);subst hE0;by_cases h3:300<np
  case pos =>
   have s0:(300:Int)<np:=(by omega);have h6:Hid (ofE d ps=3):=Kh (ofE_many g7.out (by rw[<- H0.out];exact h3));have h2:=h0.out;have f40:=zE h2 0;have f41:=zE h2 1;have f42:=zE h2 2;have d9:=zI h2;obtain⟨v0,v1,v2⟩:=zH h2;go_wp2;have g1:=zD (zD (zC w1 ⟨P,0,none⟩ (.slice none 0 0)) (zC _ ⟨P,1,none⟩ (.slice none 0 0))) (zC _ ⟨P,2,none⟩ (.int .i64 0));have z1:=heap_setCell_same _ P 2 _ _ (.int .i64 0) (heap_setCell_same _ P 1 _ _ (.slice none 0 0) (heap_setCell_same w1 P 0 _ _ (.slice none 0 0) h2));obtain⟨w9,H7⟩:∃ w9,w9=((w1.setCell ⟨P,0,none⟩ (.slice none 0 0)).setCell ⟨P,1,none⟩ (.slice none 0 0)).setCell ⟨P,2,none⟩ (.int .i64 0):=⟨_,rfl⟩;rw[<- H7]at g1 z1 ⊢;simp only[Array.setIfInBounds,List.size_toArray,List.length_cons,List.length_nil]at z1;obtain⟨q0,q1,q2⟩:=zH z1;refine bodyPost_ret (v:=.tuple #[.agg #[.slice none 0 0,.slice none 0 0,.int .i64 0],.string ⟨#[]⟩,.string ⟨#[]⟩,.int .i64 3]) (by simp[results,Try.results19,go_sem,q0,q1,q2,Result.andThen]) rfl ?_;exact⟨_,_,_,_,rfl,(by have:=OfOut.bad (w':=w9) (d:=d) (ps:=ps) (by rw[h6.out];decide);rwa [h6.out]at this),zB h4.out g1 (fun j e=>by have e:P=j:=Oj e;have:=d0.out;omega)⟩
  case neg =>
   have s0:¬ (300:Int)<np:=(by omega);have l4:Hid (ofE d ps=vM d.letters ps):=Kh (ofE_pats g7.out (by rw[<- H0.out];exact h3));have f0:=Kh (qDK g7.out);have g2:=f0.out.hk;have j8:=f0.out.k1;have j7:=f0.out.k6;obtain⟨k,hk⟩:∃ k,k=d.letters.toNat:=⟨_,rfl⟩;rw[<- hk]at g2 j8 j7 f0;have r8:dl=(k:Int):=by rw[y0.out,g2]
   have HK:Hid (d.letters=(k:Int)):=Kh g2;have a4:=Kh hk;subst r8;clear g2 hk;have f9:=h0;have c9:Hid (Calls Try.prog 56 #[.slice pa np pc,.int .i64 (k:Int)] w1 (qDI w1 (vM (k:Int) ps) (autD ps (k:Int)))):=Kh (gF Bd w1 _ ps (k:Int) (by have:=h4.out.size;omega) (HP.out.kept h4.out (by simp)) (by rw[<- H0.out];exact hp4));obtain⟨E2,a3⟩:∃ E,E=vM (k:Int) ps:=⟨_,rfl⟩;rw[<- a3]at c9;rw[HK.out,<- a3]at l4;obtain⟨c0,c1,c2,c3⟩:=zF H8.out;have y5:=h4.out.size;clear a3;go_wp2_with fail;refine c9.out.mono ?_;rintro e w2 ⟨sa,n2,sc,rfl,b6,e9⟩;have h4:=Kh (zB h4.out b6 (by simp));have h0:=Kh (zA h0.out b6 (by simp));have H8:=Kh (zA H8.out b6 (by simp));have r4:=Kh e9;have h5:Hid (w1.heap.size<=w2.heap.size):=Kh b6.size;clear b6 e9 c9 c0 c1 c2 c3;by_cases a3:E2=0
   case neg =>
    have h6:=l4;have l5:=Kh a3;have e1:(E2 != 0)=true:=by rw[bne_iff_ne];exact a3
    clear a3;have h2:=h0.out;have f40:=zE h2 0;have f41:=zE h2 1;have f42:=zE h2 2;have d9:=zI h2;obtain⟨v0,v1,v2⟩:=zH h2;go_wp2;have g1:=zD (zD (zC w2 ⟨P,0,none⟩ (.slice none 0 0)) (zC _ ⟨P,1,none⟩ (.slice none 0 0))) (zC _ ⟨P,2,none⟩ (.int .i64 0));have z1:=heap_setCell_same _ P 2 _ _ (.int .i64 0) (heap_setCell_same _ P 1 _ _ (.slice none 0 0) (heap_setCell_same w2 P 0 _ _ (.slice none 0 0) h2));obtain⟨w9,H7⟩:∃ w9,w9=((w2.setCell ⟨P,0,none⟩ (.slice none 0 0)).setCell ⟨P,1,none⟩ (.slice none 0 0)).setCell ⟨P,2,none⟩ (.int .i64 0):=⟨_,rfl⟩;rw[<- H7]at g1 z1 ⊢;simp only[Array.setIfInBounds,List.size_toArray,List.length_cons,List.length_nil]at z1;obtain⟨q0,q1,q2⟩:=zH z1;refine bodyPost_ret (v:=.tuple #[.agg #[.slice none 0 0,.slice none 0 0,.int .i64 0],.string ⟨#[]⟩,.string ⟨#[]⟩,.int .i64 E2]) (by simp[results,Try.results19,go_sem,q0,q1,q2,Result.andThen]) rfl ?_;exact⟨_,_,_,_,rfl,(by have:=OfOut.bad (w':=w9) (d:=d) (ps:=ps) (by rw[h6.out];exact l5.out);rwa [h6.out]at this),zB h4.out g1 (fun j e=>by have e:P=j:=Oj e;have:=d0.out;omega)⟩
   case pos =>
    obtain⟨-,j1,lp,j4,n5⟩:=r4.out.resolve_left (fun h=>h a3);have p1:ofE d ps=0:=by rw[l4.out,a3]
    have b1:=Kh p1;have j0:n2=np:=by rw[j1,xS,H0.out]
    subst j0;subst a3;have o3:lp.length=n2:=by have:=congrArg List.length j4;rw[List.length_map,<- j1]at this;exact this
    have b0:=Kh n5;have x4:=Kh j4;have q6:=Kh o3;clear j1 j4 n5 r4 o3 p1;go_upto_region 9 with fail;obtain⟨w5,c4⟩:∃ w5,w5=w2.drew:=⟨_,rfl⟩;have h9:w2.grownBy w5 none:=(by rw[c4];exact zP w2 none);have l0:=Kh c4;have h4:=Kh (zB h4.out h9 (by simp));have h0:=Kh (zA h0.out h9 (by simp));have H8:=Kh (zA H8.out h9 (by simp));have b0:=Kh (b0.out.grow h9);have h5:Hid (w1.heap.size<=w5.heap.size):=Kh (Nat.le_trans h5.out h9.size);have C5:Hid (w5.cell? ⟨Q,0,none⟩=some (.int .i64 (k:Int))/\w5.cell? ⟨Q,1,none⟩=some (.int .i64 ds)/\w5.cell? ⟨Q,2,none⟩=some (.slice fa fl fc)/\w5.cell? ⟨Q,3,none⟩=some (.slice na nl nc)):=Kh (zF H8.out);have f2:Hid (Calls Try.prog 58 #[.agg #[.int .i64 (k:Int),.int .i64 ds,.slice fa fl fc,.slice na nl nc]] w5 (qHX w5 (minD d k))):=Kh (mM Bd w5 _ d _ k (by have:=h4.out.size;omega) (HD.out.kept h4.out (by simp)) f0.out (qGB g7.out));clear h9 c4;refine wp_region_noPanic ?_;refine xZ (G:=tG 7 (fun _=>True) (fun W=>W.cell? ⟨Q,0,none⟩=some (.int .i64 (k:Int))/\W.cell? ⟨Q,1,none⟩=some (.int .i64 ds)/\W.cell? ⟨Q,2,none⟩=some (.slice fa fl fc)/\W.cell? ⟨Q,3,none⟩=some (.slice na nl nc))) (by kernel_rfl) ?_;rw[<- l0.out];refine yK 0 ⟨trivial,fun _=>C5.out⟩ ?_;refine yK 5 ⟨trivial,fun _=>C5.out⟩ ?_;refine vX 6 ⟨trivial,fun _=>C5.out⟩ ?_;obtain⟨k1,k2,k3,k4⟩:=C5.out;refine oneG (i:=1) (by kernel_rfl) rfl (fun K hK=>?_);go_simp;refine hK.out _ _ ⟨trivial,fun _=>C5.out⟩ ?_;clear hK K k1 k2 k3 k4
    try simp only[Act.put,sPa,sPb,sPc]
    refine oneG (i:=2) (by kernel_rfl) rfl (fun K hK=>?_);go_simp
    go_at_call 58
    refine f2.out.mono ?_;rintro e w6 ⟨v6,rfl,d7,h8⟩;obtain⟨f6,x6,rfl,i3⟩:=d7.t;obtain⟨fa6,fl6,fc6,na6,nl6,nc6,rfl,rfl⟩:=i3.shapes;have p9:=Kh i3;have h4:=Kh (zB h4.out h8 (by simp));have h0:=Kh (zA h0.out h8 (by simp));have H8:=Kh (zA H8.out h8 (by simp));have b0:=Kh (b0.out.grow h8);have h5:Hid (w1.heap.size<=w6.heap.size):=Kh (Nat.le_trans h5.out h8.size);have C6:Hid (w6.cell? ⟨Q,0,none⟩=some (.int .i64 (k:Int))/\w6.cell? ⟨Q,1,none⟩=some (.int .i64 ds)/\w6.cell? ⟨Q,2,none⟩=some (.slice fa fl fc)/\w6.cell? ⟨Q,3,none⟩=some (.slice na nl nc)):=Kh (zF H8.out);obtain⟨ml,j3⟩:∃ x,x=(minD d k).letters:=⟨_,rfl⟩;obtain⟨ms,j2⟩:∃ x,x=(minD d k).start:=⟨_,rfl⟩;rw[<- j3,<- j2];have x0:=Kh j3;have t9:=Kh j2;refine hK.out _ _ ⟨trivial,fun _=>C6.out⟩ ?_;clear hK K C5 d7 h8 i3 f2 j3 j2
    try simp only[Act.put,sPa,sPb,sPc]
    refine oneG (i:=3) (by kernel_rfl) rfl (fun K hK=>?_);go_simp;have g3:=heap_alloc_new w6 (.cells #[.int .i64 ml,.int .i64 ms,.slice fa6 fl6 fc6,.slice na6 nl6 nc6] 42);have H9:=Ga w6 (.cells #[.int .i64 ml,.int .i64 ms,.slice fa6 fl6 fc6,.slice na6 nl6 nc6] 42) none;obtain⟨R7,p0⟩:∃ R,R=w6.heap.size:=⟨_,rfl⟩;obtain⟨w7,n0⟩:∃ w7,w7=w6.alloc (.cells #[.int .i64 ml,.int .i64 ms,.slice fa6 fl6 fc6,.slice na6 nl6 nc6] 42):=⟨_,rfl⟩;rw[<- n0]at g3 H9 ⊢;rw[<- p0]at g3 ⊢;have p8:=Kh (p9.out.grow H9);have h4:=Kh (zB h4.out H9 (by simp));have h0:=Kh (zA h0.out H9 (by simp));have H8:=Kh (zA H8.out H9 (by simp));have b0:=Kh (b0.out.grow H9);have h5:Hid (w1.heap.size<=w7.heap.size):=Kh (Nat.le_trans h5.out H9.size);have C7:Hid (w7.cell? ⟨Q,0,none⟩=some (.int .i64 (k:Int))/\w7.cell? ⟨Q,1,none⟩=some (.int .i64 ds)/\w7.cell? ⟨Q,2,none⟩=some (.slice fa fl fc)/\w7.cell? ⟨Q,3,none⟩=some (.slice na nl nc)):=Kh (zF H8.out);refine hK.out _ _ ⟨trivial,fun _=>C7.out⟩ ?_;clear hK K C6 n0 p0 H9 p9
    try simp only[Act.put,sPa,sPb,sPc]
    have g0:=b0.out.own;rw[q6.out]at g0;have m6:=h5.out;refine oneG (i:=4) (by kernel_rfl) rfl (fun K hK=>?_);refine tQ rfl (.tmp 38) (.tmp 41) 84 rfl gV w1.heap.size (.slice sa n2 sc) n2 (jN lp) rfl g0 [.int .i64 ml,.int .i64 ms,.slice fa6 fl6 fc6,.slice na6 nl6 nc6] R7 rfl (0,0) rfl g3 ?z1 ?z2 ?z3 m6 ?_
    case z1=>intro v hv;simp only[List.mem_cons,List.not_mem_nil,or_false]at hv;rcases hv with rfl|rfl|rfl|rfl<;>rfl
    case z2=>unfold maxLen;omega
    case z3=>show (n2+1) * 64<=140737488355328;omega
    intro sN cN wM d6 e3 r7;have d5:=b0.out.push (v':=.slice sN (n2+1) cN) (x:=(minD d k,.slice fa6 fl6 fc6,.slice na6 nl6 nc6)) p8.out (by rw[q6.out];unfold dval;rw[<- x0.out,<- t9.out];exact d6) e3
    have q9:Hid (DsIn wM.heap.size wM (.slice sN (n2+1) cN) (ofT d ps)):=Kh (by
     have:=d5.in_;rw[List.map_append,x4.out]at this;rw[ofT,HK.out,Int.toNat_natCast]
     exact this)
    have l2:Hid (∀ j,(Value.slice sa n2 sc).ownBlock=some j->w1.heap.size<=j):=Kh (fun j e=>(g0.lt j e).1);have f8:=Kh (zA h0.out e3 (fun e=>by have:=l2.out P e;have:=zI f9.out;omega));have l8:=Kh (zA H8.out e3 (fun e=>by have:=l2.out Q e;have:=zI f9.out;have:=q3.out;omega));have q7:=Kh (zB h4.out e3 (fun j e=>by have:=l2.out j e;omega));have CM:Hid (wM.cell? ⟨Q,0,none⟩=some (.int .i64 (k:Int))/\wM.cell? ⟨Q,1,none⟩=some (.int .i64 ds)/\wM.cell? ⟨Q,2,none⟩=some (.slice fa fl fc)/\wM.cell? ⟨Q,3,none⟩=some (.slice na nl nc)):=Kh (zF l8.out);have a1:Hid (Calls Try.prog 57 #[.slice sN (n2+1) cN,.int .i64 (k:Int)] wM (qIW wM (.slice sN (n2+1) cN) (ofT d ps) k)):=Kh (iX wM.heap.size wM _ (ofT d ps) k (Nat.le_refl _) q9.out (by have:=qGR b1.out;rwa [<- a4.out]at this) j8 j7 (by rw[uM,<- H0.out];omega));refine hK.out _ _ ⟨trivial,fun _=>CM.out⟩ ?_;clear hK K C7 g0 m6 g3 d6 e3 r7 d5 b0 p8 h5
    try simp only[Act.put,sPa,sPb,sPc]
    refine oneG (i:=7) (by kernel_rfl) rfl (fun K hK=>?_);go_simp
    go_at_call 57
    refine a1.out.mono ?_;rintro e w8 (⟨o0,rfl,a5⟩|⟨o,mb,L,nxl,fr,bl,rfl,b2,c6,g6,r6,b8,a5⟩)
    ·have t7:=Kh o0
     have h4:=Kh (zB q7.out a5 (by simp));have h0:=Kh (zA f8.out a5 (by simp));refine hK.out _ _ ⟨trivial,fun h=>by simp at h⟩ ?_;clear hK K CM o0 a5 a1
     try simp only[Act.put,sPa,sPb,sPc]
     refine yK 8 ⟨trivial,fun h=>by simp at h⟩ ?_;refine yK 9 ⟨trivial,fun h=>by simp at h⟩ ?_;refine yK 10 ⟨trivial,fun h=>by simp at h⟩ ?_;refine yK 11 ⟨trivial,fun h=>by simp at h⟩ ?_;refine yK 12 ⟨trivial,fun h=>by simp at h⟩ ?_;refine nE (by kernel_rfl) ?_ _;refine NoPanic.normal ?_;have h2:=h0.out;have f40:=zE h2 0;have f41:=zE h2 1;have f42:=zE h2 2;have d9:=zI h2;obtain⟨v0,v1,v2⟩:=zH h2;go_wp2;have g1:=zD (zD (zC w8 ⟨P,0,none⟩ (.slice none 0 0)) (zC _ ⟨P,1,none⟩ (.slice none 0 0))) (zC _ ⟨P,2,none⟩ (.int .i64 0));have z1:=heap_setCell_same _ P 2 _ _ (.int .i64 0) (heap_setCell_same _ P 1 _ _ (.slice none 0 0) (heap_setCell_same w8 P 0 _ _ (.slice none 0 0) h2));obtain⟨w9,H7⟩:∃ w9,w9=((w8.setCell ⟨P,0,none⟩ (.slice none 0 0)).setCell ⟨P,1,none⟩ (.slice none 0 0)).setCell ⟨P,2,none⟩ (.int .i64 0):=⟨_,rfl⟩;rw[<- H7]at g1 z1 ⊢;simp only[Array.setIfInBounds,List.size_toArray,List.length_cons,List.length_nil]at z1;obtain⟨q0,q1,q2⟩:=zH z1;refine bodyPost_ret (v:=.tuple #[.agg #[.slice none 0 0,.slice none 0 0,.int .i64 0],.string ⟨#[]⟩,.string ⟨#[]⟩,.int .i64 3]) (by simp[results,Try.results19,go_sem,q0,q1,q2,Result.andThen]) rfl ?_;exact⟨_,_,_,_,rfl,OfOut.over b1.out (by rw[<- a4.out];exact t7.out),zB h4.out g1 (fun j e=>by have e:P=j:=Oj e;have:=d0.out;omega)⟩
    ·have m0:=Kh c6;have x9:=Kh b8
     have b9:0<L.length:=List.length_pos_of_mem c6.mem0;have d4:=b2.view b9 rfl j8;have h4:=Kh (zB q7.out a5 (by simp));have h0:=Kh (zA f8.out a5 (by simp));have f4:=Kh (q9.out.kept a5 (by simp));have m5:=a5.size;refine hK.out _ _ ⟨trivial,fun h=>by simp at h⟩ ?_;clear hK K CM c6 b8 b2 r6 a5 a1
     try simp only[Act.put,sPa,sPb,sPc]
     refine yK 8 ⟨trivial,fun h=>by simp at h⟩ ?_;refine yK 9 ⟨trivial,fun h=>by simp at h⟩ ?_;refine yK 10 ⟨trivial,fun h=>by simp at h⟩ ?_;refine yK 11 ⟨trivial,fun h=>by simp at h⟩ ?_;refine yK 12 ⟨trivial,fun h=>by simp at h⟩ ?_;refine nE (by kernel_rfl) ?_ _;refine NoPanic.normal ?_;obtain⟨sb,sc8,nb,nc8,fb,fc8,bb,bc8,i2⟩:=d4;have p5:=Kh i2
     have x5:Hid (∀ s,s<L.length->InT (ofT d ps) (L.getD s [])):=Kh (fun s hs=>by
      obtain⟨u,hu,e⟩:=m0.out.re (L.getD s []) (by rw[zG hs];exact List.getElem_mem hs);rw[<- e];have i7:=qGR b1.out;rw[<- a4.out]at i7
      exact i7.walk u i7.in0 hu)
     have f5:Hid (Calls Try.prog 59 #[.pointer (some ⟨o,0,none⟩),.int .i64 (n2:Int)] w8 (qHZ w8 (ofT d ps) n2 L)):=Kh (prodClasses_any wM.heap.size w8 o k _ (ofT d ps) L nxl fr bl sb sc8 nb nc8 fb fc8 bb bc8 n2 m5 i2 f4.out (by have:=qGR b1.out;rwa [<- a4.out]at this) (by rw[uM,H0.out]) x5.out (by rw[uM,<- H0.out];omega) g6);clear i2;go_wp2_with fail;refine f5.out.mono ?_;rintro e w10 ⟨l,la,lc,rfl,h7,a7,a6⟩;have t8:=Kh h7;have g8:=Kh a7;have h4:=Kh (zB h4.out a6 (by simp));have h0:=Kh (zA h0.out a6 (by simp));have f1:=Kh (p5.out.grow a6);have d9:=a7.len_le
     have b5:0<l.length:=by
      have h1:=a7.all 0 b9;obtain⟨c,hc,_⟩:=List.mem_map.1 h1;exact List.length_pos_of_mem hc
     have a9:Hid (ClsX (fun j=>j<w10.heap.size) w10 (.slice la l.length lc) l):=Kh (kJ h7 (fun j e=>(h7.lt j e).2));obtain⟨n,hn⟩:∃ n,n=l.length:=⟨_,rfl⟩;have HN:=Kh hn;rw[<- hn]at d9 b5 a9 ⊢;clear hn a6 h7 a7 f5 p5 f4 m5;obtain⟨wo,m9⟩:∃ wo:World,wo=w10:=⟨_,rfl⟩;rw[<- m9]at h4 h0 f1 a9 ⊢;clear m9 t8;go_wp2
     go_loopg [57] n (fun gh v57 wr=>∃ kk:Nat,gh+kk=n/\v57=.int .i64 kk/\(∀ i,i<kk->kL (l.getD i default)=false)/\wo.grownBy wr none)
     case atStart=>exact⟨0,rfl,rfl,fun i hi=>by omega,zM _ _⟩
     case round =>
      obtain⟨kk,o4,rfl,o2,hg⟩:=hrel;have f3:=Kh o4;have q5:=Kh o2;have x7:=Kh hg;clear o4 o2;by_cases hkn:kk<n
      ·have j6:(kk:Int)<n:=by omega
       obtain⟨b,off,cap,e,_,o9,e6,a0⟩:=(a9.out.grow hg).at_ (by rw[<- HN.out];omega);rw[<- HN.out]at e o9;simp only[Value.slice.injEq,true_and]at e;obtain⟨rfl,rfl⟩:=e;have y6:lc<=9223372036854775807:=by unfold maxLen at e6;omega
       have e0:kk<l.length:=(by rw[<- HN.out];exact hkn);have d1:=a0.m kk e0;have d2:=a0.y kk e0;have d3:=a0.n kk e0;have c7:Hid (l.getD kk default∈l):=Kh (by rw[zG e0];exact List.getElem_mem e0);obtain⟨cc,k8⟩:∃ c,c=l.getD kk default:=⟨_,rfl⟩;rw[<- k8]at d1 d2 d3 c7;have y2:=Kh k8;have l9:Hid (kL cc=decide (0<=cc.yes/\0<=cc.no)):=Kh rfl;obtain⟨U,hU⟩:∃ U,U=mT cc.m:=⟨_,rfl⟩;obtain⟨y,hy⟩:∃ y,y=cc.yes:=⟨_,rfl⟩;obtain⟨z,hz⟩:∃ z,z=cc.no:=⟨_,rfl⟩;rw[<- hU]at d1;rw[<- hy]at d2;rw[<- hz]at d3;rw[<- hy,<- hz]at l9;have HY:=Kh hy;have HZ:=Kh hz;have e7:=heap_alloc_new wr (.cells #[.string U,.int .i64 y,.int .i64 z] 99);have j9:=Ga wr (.cells #[.string U,.int .i64 y,.int .i64 z] 99) none;obtain⟨wR,i1⟩:∃ wR,wR=wr.alloc (.cells #[.string U,.int .i64 y,.int .i64 z] 99):=⟨_,rfl⟩;obtain⟨R,hR⟩:∃ R,R=wr.heap.size:=⟨_,rfl⟩;rw[<- i1]at e7 j9;rw[<- hR]at e7;have s3:=Kh i1;have t5:=Kh hR;have y9:=Kh e7;have a2:=Kh (zB x7.out j9 (by simp));obtain⟨r0,r1,r2⟩:=zH e7;clear a0 o9 e6 hU hy hz i1 hR e7 j9 k8 hg;go_upto_region 16 with fail;rw[<- s3.out,<- t5.out];clear d1 d2 d3;by_cases hyz:0<=y/\0<=z
       case neg =>
        have g9:Hid (kL cc=false):=Kh (by rw[l9.out,decide_eq_false hyz])
        have q4:Hid (∀ i,i<kk+1->kL (l.getD i default)=false):=Kh (fun i hi=>by
         rcases Nat.lt_succ_iff_lt_or_eq.1 hi with hi|rfl
         ·exact q5.out i hi
         ·rw[<- y2.out];exact g9.out)
        by_cases i0:0<=y
        ·have m7:¬ 0<=z:=fun h=>hyz ⟨i0,h⟩
         clear hyz;go_wp2;go_roundg (n - (kk+1))
         case measure=>have:=f3.out;omega
         case rel=>exact⟨kk+1,by have:=f3.out;omega,by go_num,q4.out,a2.out⟩
        ·clear hyz
         go_wp2;go_roundg (n - (kk+1))
         case measure=>have:=f3.out;omega
         case rel=>exact⟨kk+1,by have:=f3.out;omega,by go_num,q4.out,a2.out⟩
       case pos =>
        obtain⟨i0,m7⟩:=hyz;have g9:Hid (kL cc=true):=Kh (by rw[l9.out,decide_eq_true ⟨i0,m7⟩]);obtain⟨yn,zn,e1,e2,m8,m3,b4,b3,d8⟩:=g8.out.both c7.out g9.out;rw[<- HY.out]at e1;rw[<- HZ.out]at e2;subst e1;subst e2;have x3:=Kh b4;have x2:=Kh b3;have x1:=Kh d8;have p4:Hid (∀ (W:World) (s:Nat),wR.grownBy W none->s<L.length->Calls Try.prog 60 #[.pointer (some ⟨o,0,none⟩),.int .i64 (s:Int)] W (qHR W (ofT d ps) k L s)):=Kh (fun W s hW hs=>pword_any W o k _ (ofT d ps) L nxl fr bl sb sc8 nb nc8 fb fc8 bb bc8 s (f1.out.grow (zB a2.out hW (by simp))) x9.out j7 hs g6);have p3:=Kh m8;have p2:=Kh m3;clear b4 b3 d8 m8 m3;go_upto_region 17 with fail;obtain⟨w5,c4⟩:∃ w5,w5=wR.drew:=⟨_,rfl⟩;have h9:wR.grownBy w5 none:=(by rw[c4];exact zP wR none);have l0:=Kh c4;have q8:=Kh h9;have C5:Hid (w5.cell? ⟨R,1,none⟩=some (.int .i64 (yn:Int))/\w5.cell? ⟨R,2,none⟩=some (.int .i64 (zn:Int))):=Kh ⟨xG r1 h9,xG r2 h9⟩;clear h9 c4 r0 r1 r2;refine wp_region_noPanic ?_;refine xZ (G:=tG 8 (fun _=>True) (fun W=>W.cell? ⟨R,1,none⟩=some (.int .i64 (yn:Int))/\W.cell? ⟨R,2,none⟩=some (.int .i64 (zn:Int)))) (by kernel_rfl) ?_;rw[<- l0.out];refine yK 0 ⟨trivial,fun _=>C5.out⟩ ?_;refine yK 1 ⟨trivial,fun _=>C5.out⟩ ?_;refine yK 2 ⟨trivial,fun _=>C5.out⟩ ?_;refine yK 5 ⟨trivial,fun _=>C5.out⟩ ?_;refine yK 6 ⟨trivial,fun _=>C5.out⟩ ?_;refine vX 7 ⟨trivial,fun _=>C5.out⟩ ?_;obtain⟨k1,k2⟩:=C5.out;refine oneG (i:=3) (by kernel_rfl) rfl (fun K hK=>?_);go_simp;refine hK.out _ _ ⟨trivial,fun _=>C5.out⟩ ?_;clear hK K k1 k2
        try simp only[Act.put,sPa,sPb,sPc]
        refine oneG (i:=4) (by kernel_rfl) rfl (fun K hK=>?_);go_simp
        go_at_call 60
        refine(p4.out w5 yn q8.out p3.out).mono ?_;rintro e w6 ⟨u1,n8,n7,n6,rfl,h8⟩;have l6:=Kh (zD q8.out h8);have p7:=Kh n8;have s8:=Kh n7;have s7:=Kh n6;have C6:Hid (w6.cell? ⟨R,1,none⟩=some (.int .i64 (yn:Int))/\w6.cell? ⟨R,2,none⟩=some (.int .i64 (zn:Int))):=Kh ⟨xG C5.out.1 h8,xG C5.out.2 h8⟩;refine hK.out _ _ ⟨trivial,fun _=>C6.out⟩ ?_;clear hK K C5 h8 n8 n7 n6
        try simp only[Act.put,sPa,sPb,sPc]
        refine oneG (i:=8) (by kernel_rfl) rfl (fun K hK=>?_);go_simp
        go_at_call 60
        refine(p4.out w6 zn l6.out p2.out).mono ?_;rintro e w7 ⟨u2,n4,n3,n1,rfl,H9⟩;have p6:=Kh n4;have s6:=Kh n3;have s5:=Kh n1;have h4:=Kh (zB h4.out (zB a2.out (zD l6.out H9) (by simp)) (by simp));have h0:=Kh (zA h0.out (zB a2.out (zD l6.out H9) (by simp)) (by simp));refine hK.out _ _ ⟨trivial,fun h=>by simp at h⟩ ?_;clear hK K C6 H9 n4 n3 n1
        try simp only[Act.put,sPa,sPb,sPc]
        have h2:=h0.out;have f40:=zE h2 0;have f41:=zE h2 1;have f42:=zE h2 2;have j5:=zI h2;obtain⟨v0,v1,v2⟩:=zH h2;refine oneG (i:=9) (by kernel_rfl) rfl (fun K hK=>?_);go_simp;have g1:=zD (zD (zC w7 ⟨P,0,none⟩ (.slice none 0 0)) (zC _ ⟨P,1,none⟩ (.slice none 0 0))) (zC _ ⟨P,2,none⟩ (.int .i64 0));have z1:=heap_setCell_same _ P 2 _ _ (.int .i64 0) (heap_setCell_same _ P 1 _ _ (.slice none 0 0) (heap_setCell_same w7 P 0 _ _ (.slice none 0 0) h2));obtain⟨w9,H7⟩:∃ w9,w9=((w7.setCell ⟨P,0,none⟩ (.slice none 0 0)).setCell ⟨P,1,none⟩ (.slice none 0 0)).setCell ⟨P,2,none⟩ (.int .i64 0):=⟨_,rfl⟩;rw[<- H7]at g1 z1 ⊢;simp only[Array.setIfInBounds,List.size_toArray,List.length_cons,List.length_nil]at z1;refine hK.out _ _ ⟨trivial,fun h=>by simp at h⟩ ?_;clear hK K v0 v1 v2 f40 f41 f42
        try simp only[Act.put,sPa,sPb,sPc]
        refine oneG (i:=10) (by kernel_rfl) rfl (fun K hK=>?_);go_simp;refine hK.out _ _ ⟨trivial,fun h=>by simp at h⟩ ?_;clear hK K
        try simp only[Act.put,sPa,sPb,sPc]
        refine oneG (i:=11) (by kernel_rfl) rfl (fun K hK=>?_);go_simp;refine hK.out _ _ ⟨trivial,fun h=>by simp at h⟩ ?_;clear hK K
        try simp only[Act.put,sPa,sPb,sPc]
        refine oneG (i:=12) (by kernel_rfl) rfl (fun K hK=>?_);go_simp;refine hK.out _ _ ⟨trivial,fun h=>by simp at h⟩ ?_;clear hK K
        try simp only[Act.put,sPa,sPb,sPc]
        refine nE (by kernel_rfl) ?_ _;refine NoPanic.normal ?_;obtain⟨q0,q1,q2⟩:=zH z1;have s9:=Kh H7;clear H7 h2;obtain⟨s1,i5⟩:∃ s,s=strOfNums (lets u1):=⟨_,rfl⟩;obtain⟨s2,i4⟩:∃ s,s=strOfNums (lets u2):=⟨_,rfl⟩;rw[<- i5,<- i4];have t4:=Kh i5;have t0:=Kh i4;clear i5 i4;go_wp2
        try rw[<- s9.out]
        refine bodyPost_ret (v:=.tuple #[.agg #[.slice none 0 0,.slice none 0 0,.int .i64 0],.string s1,.string s2,.int .i64 20]) (by simp[results,Try.results19,go_sem,q0,q1,q2,Result.andThen]) rfl ?_;have a8:=m0.out;rw[a4.out]at a8;have a0:=g8.out;rw[H0.out]at a0;have i9:ps.length<(ofT d ps).length:=(by rw[uM];omega);have b4:=x3.out;rw[H0.out]at b4;have b3:=x2.out;rw[H0.out]at b3;have d8:=x1.out;rw[H0.out]at d8;obtain⟨t1,t2,t3⟩:=of_conf b1.out a8 (by rw[<- a4.out];exact p7.out) (by rw[<- a4.out];exact p6.out) s7.out s5.out b4 b3 d8;refine⟨_,_,_,_,rfl,?_,zB h4.out g1 (fun j e=>by have e:P=j:=Oj e;have:=d0.out;omega)⟩;rw[t4.out,t0.out];exact OfOut.conf b1.out ⟨L,a8,g6⟩ (cls_conf i9 a8 a0 c7.out g9.out) u1 u2 (by rw[<- a4.out];exact p7.out) (by rw[<- a4.out];exact p6.out) (by have:=s8.out;have:=p3.out;omega) (by have:=s6.out;have:=p2.out;omega) t1 t2 t3
      ·have j6:¬ (kk:Int)<n:=by omega
       have r5:Hid (∀ c∈l,kL c=false):=Kh (fun c hc=>by
        obtain⟨i,hi,rfl⟩:=List.getElem_of_mem hc;have:=q5.out i (by have:=f3.out;have:=HN.out;omega)
        rwa [zG hi]at this)
       have c8:=Kh (zB h4.out hg (by simp));have e5:=g8.out;have l7:Hid (Calls Try.prog 61 #[.slice pa n2 pc,.slice la n lc] wr (qIY wr ps l)):=Kh (diagram_any Bd wr _ _ ps l (by have:=c8.out.size;omega) (HP.out.kept c8.out (by simp)) ((a9.out.grow hg).mono (fun j hj=>Nat.lt_of_lt_of_le hj hg.size)) (by rw[<- HN.out];exact b5) (by rw[<- HN.out];omega) (by rw[<- H0.out];exact clsok_of e5 (fun i=>oI _ _ _)) (by rw[<- H0.out];omega) (of_short b1.out));have f7:=Kh (zA h0.out hg (by simp));clear hg e5;go_wp2_with fail;refine l7.out.mono ?_;rintro e w11 ⟨v11,g,rfl,k7,b7,b6,o6,o5,h9,h8,c5⟩;have k5:=k7 w11 none (zM _ _) (by simp);obtain⟨pv2,cv2,rfl,n9,e6⟩:=k5;obtain⟨ap,cp,rfl⟩:=n9.shape;obtain⟨ac,cc,rfl⟩:=e6.shape;have r3:=Kh k7;have h4:=Kh (zB c8.out c5 (by simp));have h0:=Kh (zA f7.out c5 (by simp));have l3:Hid (P<wr.heap.size):=Kh (zI f7.out);have H1:=Kh b7;have H2:=Kh b6;have H3:=Kh o6;have H4:=Kh o5;have H5:=Kh h9;have H6:=Kh h8;obtain⟨m1,b4⟩:∃ m,m=g.pats.length:=⟨_,rfl⟩;obtain⟨m2,b3⟩:∃ m,m=g.chos.length:=⟨_,rfl⟩;obtain⟨rt,i6⟩:∃ m,m=g.root:=⟨_,rfl⟩;rw[<- b4,<- b3,<- i6]at r3 ⊢;have y7:=Kh i6;clear k7 n9 e6 c5 b7 b6 o6 o5 h9 h8 b4 b3 i6;have h2:=h0.out;have f40:=zE h2 0;have f41:=zE h2 1;have f42:=zE h2 2;have j5:=zI h2;obtain⟨v0,v1,v2⟩:=zH h2;go_wp2;have g1:=zD (zD (zC w11 ⟨P,0,none⟩ (.slice ap m1 cp)) (zC _ ⟨P,1,none⟩ (.slice ac m2 cc))) (zC _ ⟨P,2,none⟩ (.int .i64 rt));have z1:=heap_setCell_same _ P 2 _ _ (.int .i64 rt) (heap_setCell_same _ P 1 _ _ (.slice ac m2 cc) (heap_setCell_same w11 P 0 _ _ (.slice ap m1 cp) h2));obtain⟨w9,H7⟩:∃ w9,w9=((w11.setCell ⟨P,0,none⟩ (.slice ap m1 cp)).setCell ⟨P,1,none⟩ (.slice ac m2 cc)).setCell ⟨P,2,none⟩ (.int .i64 rt):=⟨_,rfl⟩;rw[<- H7]at g1 z1 ⊢;simp only[Array.setIfInBounds,List.size_toArray,List.length_cons,List.length_nil]at z1;obtain⟨q0,q1,q2⟩:=zH z1;refine bodyPost_ret (v:=.tuple #[.agg #[.slice ap m1 cp,.slice ac m2 cc,.int .i64 rt],.string ⟨#[]⟩,.string ⟨#[]⟩,.int .i64 0]) (by simp[results,Try.results19,go_sem,q0,q1,q2,Result.andThen]) rfl ?_;have a8:=m0.out;rw[a4.out]at a8;have a0:=g8.out;rw[H0.out]at a0;have i9:ps.length<(ofT d ps).length:=(by rw[uM];omega);refine⟨_,_,_,_,rfl,OfOut.ok _ g l L b1.out a8 g6 (cls_noconf i9 a8 a0 r5.out) (r3.out w9 _ g1 (fun j e=>by have e:P=j:=Oj e;have:=l3.out;omega)) H1.out H2.out H3.out H4.out (of_dec b1.out a8 a0 r5.out H2.out H4.out H5.out) a0 H6.out,zB h4.out g1 (fun j e=>by have e:P=j:=Oj e;have:=d0.out;omega)⟩
end Go.Proofs.Ytjfdomfendbhfaa
namespace Go.Proofs.Ytjfdomfendbhfaa
open Go.RowKit
def exts (bs:List (List (List Int)))(ws:List (List Int)):List (List (List Int)):=bs.flatMap fun b=>ws.map fun u=>b++[u]
def chB (ws:List (List Int)):Nat->List (List (List Int))
 | 0=>ws.map oneB
 | i+1=>exts (chB ws i) (ws.drop 1)
def chL (ws:List (List Int)):Nat->List (List (List Int))
 | 0=>ws.map oneB
 | i+1=>chL ws i++exts (chB ws i) ws
theorem qHJ (ws:List (List Int))(i:Nat):∀ d,chL ws i <+: chL ws (i+d)
 | 0=>List.prefix_refl _
 | d+1=>(qHJ ws i d).trans (List.prefix_append _ _)
theorem dJ {ws:List (List Int)}:∀ (i:Nat) {b:List (List Int)},b∈chB ws i->b.length=i+1
 | 0,b,h=>by
  obtain⟨u,_,rfl⟩:=List.mem_map.1 h;rfl
 | i+1,b,h=>by
  obtain⟨c,hc,hb⟩:=List.mem_flatMap.1 h
  obtain⟨u,_,rfl⟩:=List.mem_map.1 hb
  rw[List.length_append,dJ i hc];rfl
theorem eZ (bs:List (List (List Int)))(ws:List (List Int)):(exts bs ws).length=bs.length * ws.length:=by
 induction bs with
 | nil=>simp[exts]
 | cons b bs ih =>
  have:exts (b::bs) ws=(ws.map fun u=>b++[u])++exts bs ws:=rfl;rw[this,List.length_append,ih,List.length_map,List.length_cons,Nat.succ_mul];omega
structure LUp (e base:Nat)(w:World)(v:Value)(n:Nat)(svs:List Value)(ps:List (List (List Int))):Prop where
 own:w.ownsRow base e 1 v n svs
 rows:xY w.heap.size 9 strs w svs ps
 ne:e≠9
theorem LUp.len {e base n:Nat}{w:World}{v:Value}{svs:List Value}{ps:List (List (List Int))}(h:LUp e base w v n svs ps):n=ps.length:=by
 have:=h.own.1;have:=h.rows.1;omega
theorem LUp.nil {e:Nat}(he:e≠9)(base:Nat)(w:World):LUp e base w (.slice none 0 0) 0 [] []:=⟨World.ownsRow_nil _ _ _ _,xY.nil,he⟩
theorem LUp.kept {e base n:Nat}{w w':World}{v:Value}{svs:List Value}{ps:List (List (List Int))}{row:Option Nat}(h:LUp e base w v n svs ps)(hg:w.grownBy w' row)(hr:∀ k,row=some k->w.heap.size<=k\/(yF w 9 k/\yF w e k)):LUp e base w' v n svs ps:=by
 refine⟨h.own.kept hg ?_,(h.rows.kept hg (fun k e=>(hr k e).imp id (·.1))).mono hg.size,h.ne⟩;rcases hv:v.ownBlock with _|k
 ·exact .inl rfl
 ·refine .inr fun e1=>?_
  rcases hr k e1.symm with h1|⟨_,cur,e',m,hb,hn⟩
  ·have:=(h.own.lt k hv).2;omega
  ·exact zS h.own hb (fun e2=>hn e2.symm) hv
theorem LUp.push {e base n m b2:Nat}{w w1 w':World}{v v' sv:Value}{svs:List Value}{ps:List (List (List Int))}{us:List (List Int)}(h:LUp e base w v n svs ps)(hg1:w.grownBy w1 none)(ho1:w1.ownsRow b2 9 1 sv m (strs us))(hown:w'.ownsRow base e 1 v' (n+1) (svs++[sv]))(hg:w1.grownBy w' v.ownBlock):LUp e base w' v' (n+1) (svs++[sv]) (ps++[us])/\w.grownBy w' v.ownBlock:=by
 have h1:=h.kept hg1 (by simp);have h0:=yU h1.own h.ne;refine⟨⟨hown,?_,h.ne⟩,zD (yQ hg1) hg⟩;have h2:=((h1.rows.snoc (RowT.of_owns ho1)).kept hg (fun k e=>.inr (h0 k e))).mono hg.size;exact h2
theorem LUp.ofPats {base n:Nat}{w:World}{v:Value}{svs:List Value}{ps:List (List (List Int))}(h:PatsUp base w v n svs ps):LUp 28 base w v n svs ps:=⟨h.own,h.rows,by decide⟩
def cnt (letters:Nat):Nat->Int×Int
 | 0=>(0,1)
 | r+1=>(min ((cnt letters r).1+(cnt letters r).2) 900,min ((cnt letters r).2 * letters) 900)
def chn (ne:Int):Nat->Int×Int
 | 0=>(ne+1,(ne+1) * (ne+1))
 | r+1=>(min ((chn ne r).1+(chn ne r).2) 900,min (chn ne r).2 900 * ne)
theorem qHI (ne:Int)(h:0<=ne)(h9:ne<=900):∀ r,0<=(chn ne r).1/\(chn ne r).1<=901/\0<=(chn ne r).2/\(chn ne r).2<=811801
 | 0=>by
  have h2:(ne+1) * (ne+1)<=901 * 901:=Int.mul_le_mul (by omega) (by omega) (by omega) (by omega)
  have h3:0<=(ne+1) * (ne+1):=Int.mul_nonneg (by omega) (by omega)
  simp only[chn];omega
 | r+1=>by
  have hb:=qHI ne h h9 r
  have h2:min (chn ne r).2 900 * ne<=900 * 900:=Int.mul_le_mul (by omega) h9 h (by omega)
  have h3:0<=min (chn ne r).2 900 * ne:=Int.mul_nonneg (by omega) h
  simp only[chn];omega
def qGF (kind:Int)(letters:Nat)(k m:Int):Int :=
 let ne:=(cnt letters (k+1).toNat).1 - 1
 let sh:=(cnt letters k.toNat).1
 if kind=1 then ne+1 else if kind=2\/kind=3 then sh+ne else if kind=4 then sh+2 * ne else if kind=5 then sh+3 * ne else if kind=6 then ne else (chn ne (m+1).toNat).1
def kA (kind letters k m:Int):Bool :=
 decide (1<=kind/\kind<=7/\1<=letters/\letters<=6/\(if kind=1 then 0 else 1)<=k/\k<=8/\(if kind=7 then 0<=m/\m<=4 else m=0))
end Go.Proofs.Ytjfdomfendbhfaa
namespace Go.Proofs.Ytjfdomfendbhfaa
def xH (letters k:Nat):List (List Int):=upTo letters (k+1)
def famP (kind:Int)(letters k m:Nat):List (List (List Int)) :=
 let W:=xH letters k
 let S:=upTo letters k
 if kind=1 then W.map oneB else if kind=2 then S.map oneB++(W.drop 1).map preB else if kind=3 then S.map oneB++(W.drop 1).map sufB
 else if kind=4 then S.map oneB++(W.drop 1).map sufB++(W.drop 1).map preB else if kind=5 then S.map oneB++(W.drop 1).map sufB++(W.drop 1).map preB++(W.drop 1).map facB
 else if kind=6 then (W.drop 1).map rJ else chL W (m+1)
theorem min_add (a b:Int)(ha:0<=a)(hb:0<=b):min (min a 900+min b 900) 900=min (a+b) 900:=by omega
theorem min_mul (b:Nat)(L:Nat)(h:1<=L):min (min (b:Int) 900 * L) 900=min ((b * L:Nat):Int) 900:=by
 rcases Nat.lt_or_ge b 900 with hb|hb
 ·rw[Int.min_eq_left (a:=(b:Int)) (by omega),Int.natCast_mul]
 ·have h2:b * 1<=b * L:=Nat.mul_le_mul_left _ h
  rw[Int.min_eq_right (a:=(b:Int)) (by omega)];obtain⟨P,hP⟩:∃ P,P=b * L:=⟨_,rfl⟩;rw[<- hP]at h2 ⊢;omega
theorem qHF (letters:Nat)(h:1<=letters):∀ r,(cnt letters r).1=min ((upTo letters r).length:Int) 900/\(cnt letters r).2=min ((letters ^ r:Nat):Int) 900
 | 0=>by simp only[cnt,upTo,List.range_zero,List.flatMap_nil,List.length_nil,Nat.pow_zero];decide
 | r+1=>by
  obtain⟨h1,h2⟩:=qHF letters h r
  rw[cnt]
  simp only
  rw[h1,h2]
  refine⟨?_,?_⟩
  ·rw[min_add _ _ (by omega) (by omega),wF,List.length_append,uN];push_cast;rfl
  ·rw[min_mul _ _ h,Nat.pow_succ]
theorem qHK (ws:List (List Int))(i:Nat):(chL ws (i+1)).length=(chL ws i).length+(chB ws i).length * ws.length:=by rw[chL,List.length_append,eZ]
theorem chB_len (ws:List (List Int))(i:Nat):(chB ws (i+1)).length=(chB ws i).length * (ws.length - 1):=by rw[chB,eZ,List.length_drop]
theorem qIT {ws:List (List Int)}(hw:1<=ws.length)(h9:ws.length<=900):∀ r,((chn ((ws.length:Int) - 1) r).1=((chL ws r).length:Int)/\(chn ((ws.length:Int) - 1) r).2=(((chB ws r).length * ws.length:Nat):Int))\/((chn ((ws.length:Int) - 1) r).1=900/\900<=(chL ws r).length)
 | 0=>by
  refine .inl ⟨?_,?_⟩
  ·simp[chn,chL]
  ·rw[chn]
   simp only[chB,List.length_map]
   rw[show (ws.length:Int) - 1+1=ws.length by omega];push_cast;rfl
 | r+1=>by
  have hb:=qHI ((ws.length:Int) - 1) (by omega) (by omega) r
  rw[chn]
  simp only
  rcases qIT hw h9 r with ⟨e1,e2⟩|⟨e1,e2⟩
  ·rw[e1,e2,qHK,chB_len]
   obtain⟨P,hP⟩:∃ P,P=(chB ws r).length * ws.length:=⟨_,rfl⟩
   rw[<- hP]
   rcases Nat.lt_or_ge ((chL ws r).length+P) 900 with h|h
   ·refine .inl ⟨by omega,?_⟩
    rw[Int.min_eq_left (by omega)]
    have e3:(chB ws r).length * (ws.length - 1) * ws.length=P * (ws.length - 1):=by rw[hP,Nat.mul_assoc,Nat.mul_assoc,Nat.mul_comm (ws.length - 1)]
    rw[e3]
    have e4:(ws.length:Int) - 1=((ws.length - 1:Nat):Int):=by omega
    rw[e4];push_cast;rfl
   ·exact .inr ⟨by omega,by omega⟩
  ·refine .inr ⟨by omega,?_⟩
   rw[qHK];omega
theorem qHH (ne:Int)(h:0<=ne)(h9:ne<=900)(h3:300<=ne):∀ r,300<(chn ne r).1
 | 0=>by simp only[chn];omega
 | r+1=>by
  have:=qHH ne h h9 h3 r
  have hb:=qHI ne h h9 r
  rw[chn];simp only;omega
theorem qGE {kind:Int}{letters k m:Nat}(h1:1<=kind)(h7:kind<=7)(hl:1<=letters)(hk:kind≠1->1<=k):(300<qGF kind letters k m ↔ 300<(famP kind letters k m).length):=by
 obtain⟨c1,_⟩:=qHF letters hl (k+1);obtain⟨c2,_⟩:=qHF letters hl k;have e1:(((k:Nat):Int)+1).toNat=k+1:=by omega
 have e2:((k:Nat):Int).toNat=k:=by omega
 have e3:(((m:Nat):Int)+1).toNat=m+1:=by omega
 have hw:1<=(xH letters k).length:=aI hl;have hS:(upTo letters k).length<=(xH letters k).length:=by rw[xH,wF,List.length_append];omega
 unfold qGF famP;simp only;rw[e1,e2,e3,c1,c2]
 change 1<=(xH letters k).length at hw
 rw[show upTo letters (k+1)=xH letters k from rfl];obtain⟨W,hW⟩:∃ W,W=xH letters k:=⟨_,rfl⟩;rw[<- hW]at hw hS ⊢;by_cases k1:kind=1
 ·rw[if_pos k1,if_pos k1,List.length_map];omega
 rw[if_neg k1,if_neg k1];by_cases k2:kind=2
 ·rw[if_pos (.inl k2),if_pos k2];simp only[List.length_append,List.length_map,List.length_drop];omega
 by_cases k3:kind=3
 ·rw[if_pos (.inr k3),if_neg k2,if_pos k3];simp only[List.length_append,List.length_map,List.length_drop];omega
 rw[if_neg (by omega),if_neg k2,if_neg k3];by_cases k4:kind=4
 ·rw[if_pos k4,if_pos k4];simp only[List.length_append,List.length_map,List.length_drop];omega
 rw[if_neg k4,if_neg k4];by_cases k5:kind=5
 ·rw[if_pos k5,if_pos k5];simp only[List.length_append,List.length_map,List.length_drop];omega
 rw[if_neg k5,if_neg k5];by_cases k6:kind=6
 ·rw[if_pos k6,if_pos k6];simp only[List.length_map,List.length_drop];omega
 rw[if_neg k6,if_neg k6];rcases Nat.lt_or_ge W.length 900 with h9|h9
 ·rw[Int.min_eq_left (by omega)]
  rcases qIT (ws:=W) hw (by omega) (m+1) with ⟨e,_⟩|⟨e,e'⟩
  ·rw[e];omega
  ·rw[e];omega
 ·rw[Int.min_eq_right (by omega)]
  have hb:=qHH 899 (by omega) (by omega) (by omega) (m+1);have hp:=(qHJ W 0 (m+1)).length_le;rw[Nat.zero_add]at hp;have e:(chL W 0).length=W.length:=by simp[chL]
  have:(900:Int) - 1=899:=by decide
  rw[this];omega
end Go.Proofs.Ytjfdomfendbhfaa
namespace Go.Proofs.Ytjfdomfendbhfaa
open Go.RowKit
def famE (kind letters k m:Int):Int:=if kA kind letters k m=false then 1 else if kind=6/\8<k+2\/300<qGF kind letters.toNat k m then 3 else 0
def famL (kind letters k m:Int):List (List (List Int)):=if famE kind letters k m=0 then famP kind letters.toNat k.toNat m.toNat else []
def mE (w:World)(er:Int)(ps:List (List (List Int)))(e:Ending)(w':World):Prop :=
 ∃ (sa:Option Addr) (sc:Nat) (svs:List Value),e=.returned (.tuple #[.slice sa ps.length sc,.int .i64 er])/\RowT w'.heap.size 28 w' (.slice sa ps.length sc) svs/\xY w'.heap.size 9 strs w' svs ps/\w.grownBy w' none
theorem mE.nil {w w':World}{er:Int}(hg:w.grownBy w' none):mE w er [] (.returned (.tuple #[.slice none 0 0,.int .i64 er])) w':=⟨none,0,[],rfl,.inl ⟨rfl,rfl⟩,xY.nil,hg⟩
end Go.Proofs.Ytjfdomfendbhfaa
