/- Part 14 of the proof. -/
import Derived.Test.YtjfdomfendbhfaaQh13
set_option linter.unusedVariables false
set_option linter.unusedSimpArgs false
set_option maxRecDepth 100000
set_option maxHeartbeats 16000000
namespace Go.Proofs.Ytjfdomfendbhfaa
open Go.Maps Go.RowKit
theorem fillL_stay {l:List Nat}{np j:Nat}(h:l.length=np)(hj:j<np)(h0:l.getD j 0=0):pZ l np (j+1)=pZ l np j:=by
 rw[<-jJ h hj,h0];refine List.ext_getElem (by simp) fun i h1 h2=>?_;rw[List.getElem_set]
 split
 ·rename_i e;subst e
  have hl:(l.take j).length=j:=by rw[List.length_take];omega
  have:(pZ l np j)[j]?=some 0:=by
   unfold pZ;rw[List.getElem?_append_right (by omega),hl,Nat.sub_self];rw[List.getElem?_replicate];rw[if_pos (by omega)]
  rw[List.getElem?_eq_getElem (by simpa using h2)]at this;exact(Oj this).symm
 ·rfl
theorem qCU {base:Nat}{w:World}{g cap n:Nat}{l:List ClaV}(h:w.ownsRow base 99 3 (.slice (some ⟨g,0,none⟩) n cap) n (sH l)){i:Nat}(hi:i<l.length):w.cell? ⟨g,i*3+1,none⟩=some (.int .i64 (l.getD i default).yes)/\w.cell? ⟨g,i*3+2,none⟩=some (.int .i64 (l.getD i default).no)/\w.frozen? ⟨g,i*3+1,none⟩=false/\w.frozen? ⟨g,i*3+2,none⟩=false:=by
 have h0:∀g j,(⟨g,0,none⟩:Addr).add j=⟨g,j,none⟩:=fun g j=>by unfold Addr.add;split<;>simp_all
 have c1:=h.cells (g:=g) rfl _ _ (oA l i hi).2.1;have c2:=h.cells (g:=g) rfl _ _ (oA l i hi).2.2;rw[h0]at c1 c2;rcases h.2 with ⟨hv,_⟩|⟨g',cap',cur,hv,hb,hg,hnc,hcm,hcs,htake⟩
 ·simp at hv
 ·simp only[Value.slice.injEq,Option.some.injEq,Addr.mk.injEq]at hv
  obtain⟨⟨rfl,_⟩,_,rfl⟩:=hv;rw[zG hi];exact⟨c1,c2,frozen_of_row w g _ _ _ hg,frozen_of_row w g _ _ _ hg⟩
theorem bM {w:World}{base e n sc:Nat}{sa:Option Addr}{xs:List Value}(h:w.ownsRow base e 3 (.slice sa n sc) n xs)(hn:0<n):∃kb,sa=some ⟨kb,0,none⟩/\n<=sc/\sc<=maxLen:=by
 rcases h.2 with ⟨h',h0⟩|⟨g,cap,cur,h1,hb,hg,hnc,hcm,_⟩
 ·omega
 ·simp only[Value.slice.injEq]at h1
  obtain⟨rfl,-,rfl⟩:=h1;exact⟨g,rfl,hnc,hcm⟩
def qIG (w:World)(ds:List DfaV)(np:Nat)(L:List (List Nat))(e:Ending)(w':World):Prop :=
 ∃l sa sc,e=.returned (.slice sa (l:List ClaV).length sc)/\w'.ownsRow w.heap.size 99 3 (.slice sa l.length sc) l.length (sH l)/\ClsI (fun s=>mtsT ds np (L.getD s [])) (fun s=>accT ds (L.getD s []) np) L.length L.length l/\w.grownBy w' none
structure ClS (w:World)(mb np:Nat)(M:Nat->List Bool)(A:Nat->Bool)(s t:Nat)(sa:Option Addr)(sc:Nat)(l:List ClaV)(wr:World):Prop where
 own:wr.ownsRow w.heap.size 99 3 (.slice sa l.length sc) l.length (sH l)
 map:∃u c,u<=t/\MapK 9 (fun m:List Bool=>m.length=np) (fun m=>.string (mT m)) wr mb u c (numC l)
 cls:ClsI M A s t l
 gr:w.grownBy wr none
 mlo:w.heap.size<=mb
section
variable {w wr w':World} {mb np s t:Nat} {M:Nat->List Bool} {A:Nat->Bool} {sa:Option Addr} {sc:Nat} {l:List ClaV}
theorem ClS.grow (h:ClS w mb np M A s t sa sc l wr)(hg:wr.grownBy w' none):ClS w mb np M A s t sa sc l w':=by
 obtain⟨u,c,hu,hm⟩:=h.map;exact⟨zP h.own hg,⟨u,c,hu,hm.kept hg (by simp)⟩,h.cls,zA h.gr hg (by simp),h.mlo⟩
theorem ClS.bytes (h:ClS w mb np M A s t sa sc l wr){tb:Nat}{xs:List Value}(ha:Arr wr tb 5 xs)(hlo:w.heap.size<=tb)(hg:wr.grownBy w' (some tb)):ClS w mb np M A s t sa sc l w':=by
 obtain⟨u,c,hu,hm⟩:=h.map;obtain⟨cs,r,hb,_⟩:=id ha;have h1:(Value.slice sa l.length sc).ownBlock≠some tb:=fun e=>zQ h.own hb (by decide) e;refine⟨h.own.kept hg (.inr (fun e=>h1 e)),⟨u,c,hu,hm.kept hg (fun e=>?_)⟩,h.cls,zA h.gr hg (fun k e=>by have e:tb=k:=Oj e;omega),h.mlo⟩;have e:tb=mb:=Oj e;obtain⟨es,clock,h0⟩:=hm.obj;rw[<-e,hb]at h0;simp at h0
end
theorem prodClasses_any (Bd:Nat)(w:World)(o k:Nat)(pv:Value)(ds:List DfaV)(L:List (List Nat))(nxl fr bl:List Nat)(sb sc nb nc fb fc bb bc np:Nat)(hBd:Bd<=w.heap.size)(h:ProdV w o k pv L nxl fr bl sb sc nb nc fb fc bb bc)(hd:DsIn Bd w pv ds)(hok:OkT ds k)(hnp:ds.length=np+1)(hin:∀s,s<L.length->InT ds (L.getD s []))(hl:ds.length<=400)(hL:L.length<=4000):Calls Try.prog 59 #[.pointer (some ⟨o,0,none⟩),.int .i64 (np:Int)] w (qIG w ds np L):=by
 have a2:Hid (∀(W:World) (s i:Nat),w.grownBy W none->s<L.length->i<ds.length->Calls Try.prog 69 #[.pointer (some ⟨o,0,none⟩),.int .i64 (s:Int),.int .i64 (i:Int)] W fun e w'=>e=.returned (.bool (accT ds (L.getD s []) i))/\W.grownBy w' none):=Kh (fun W s i hW hs hi=>paccepts_any Bd W o k pv ds L nxl fr bl sb sc nb nc fb fc bb bc s i (h.grow hW) (hd.kept hW (by simp)) hok hs hi (hin s hs) hl hL);obtain⟨M,hM⟩:∃M:Nat->List Bool,M=fun s=>mtsT ds np (L.getD s []):=⟨_,rfl⟩;obtain⟨A,hA⟩:∃A:Nat->Bool,A=fun s=>accT ds (L.getD s []) np:=⟨_,rfl⟩;have a1:Hid (∀s,(M s).length=np):=Kh (fun s=>by rw[hM];exact qG _ _ _);have j6:Hid (∀s i,i<np->accT ds (L.getD s []) i=(M s).getD i false):=Kh (fun s i hi=>by rw[hM];exact(gS hi).symm);have f9:Hid (∀s,accT ds (L.getD s []) np=A s):=Kh (fun s=>by rw[hA]);have i1:=Kh (key_mT (n:=np) (by omega));have f5:Hid (qIG w ds np L=fun e w'=>∃l sa sc,e=.returned (.slice sa (l:List ClaV).length sc)/\w'.ownsRow w.heap.size 99 3 (.slice sa l.length sc) l.length (sH l)/\ClsI M A L.length L.length l/\w.grownBy w' none):=Kh (by rw[hM,hA];rfl);rw[f5.out];obtain⟨x0,x1,x2,x3,x4,x5⟩:=h.cells;have f0:=h.caps;obtain⟨m,hm⟩:∃m,m=L.length:=⟨_,rfl⟩;have i9:np<=400:=by omega
 have f8:Hid (np<ds.length):=Kh (by omega);rw[<-hm]at x2 f0 a2 hL⊢;have k2:sc<=9223372036854775807:=by have:=f0.2.1;unfold maxLen at this;omega
 have j1:=@run_makeMap Try.prog;have j5:Hid (∀W:World,(Instr.makeSlice 106 (.int .i64 (np:Int)) (.int .i64 (np:Int))).run Try.prog W=.ok (.slice (some ⟨W.heap.size,0,none⟩) np np) (W.alloc (.cells (madeCells #[.int .u8 0] np) 5))):=Kh (fun W=>run_make_row' 106 5 (.int .u8 0) 1 Try.underlying106 (by kernel_rfl) rfl .i64 .i64 np (by omega) (by omega) W);clear h hd hok hM hA hin f0 hm x0 x1 x3 x4 x5 hnp hl;go_enter Try.func59,Try.ntmps59;go_upto_region 3 with fail;obtain⟨mb,g2⟩:∃b,b=w.heap.size:=⟨_,rfl⟩;obtain⟨w1,b9⟩:∃w1,w1=w.alloc (.map #[] 0):=⟨_,rfl⟩;have H2:=MapK.made 9 (fun m:List Bool=>m.length=np) (fun m=>.string (mT m)) w;have a6:=Ga w (.map #[] 0) none;rw[<-b9]at H2 a6⊢;rw[<-g2]at H2⊢;have g9:Hid (ClS w mb np M A 0 0 none 0 [] w1):=Kh ⟨World.ownsRow_nil _ _ _ _,⟨0,0,Nat.le_refl _,H2⟩,ClsI.nil M A,a6,by omega⟩;have x2:=xK x2 a6;clear H2 b9 g2 a6 j1;go_wp2
 go_loopg [5,7,8,9,10,11,12,19] m (fun gh v5 v7 v8 v9 v10 v11 v12 v19 wr=>∃(s:Nat) (sa:Option Addr) (sd:Nat) (l:List ClaV),gh+s=m/\v19=.int .i64 s/\v5=.slice sa l.length sd/\ClS w mb np M A s s sa sd l wr)
 case atStart=>exact⟨0,none,0,[],rfl,rfl,rfl,g9.out⟩
 case round =>
  clear g9;obtain⟨s,sa,sd,l,g5,rfl,rfl,H6⟩:=hrel;have H1:=Kh g5;have h7:=Kh H6;clear g5 x2 w1;by_cases hs:s<m
  ·have i7:(s:Int)<m:=by omega
   have g1:=j5.out wr;obtain⟨tb,d9⟩:∃b,b=wr.heap.size:=⟨_,rfl⟩;obtain⟨w1,b9⟩:∃w1,w1=wr.alloc (.cells (madeCells #[.int .u8 0] np) 5):=⟨_,rfl⟩;have a6:=Ga wr (.cells (madeCells #[.int .u8 0] np) 5) none;have d0:=Arr.new wr 5 (madeCells #[.int .u8 0] np);rw[show (madeCells #[.int .u8 0] np).toList=List.replicate np (.int .u8 0) by have:=mE (z:=.int .u8 0) rfl np;rw[Nat.mul_one]at this;exact this]at d0;rw[<-b9,<-d9]at g1;rw[<-b9]at a6 d0;rw[<-d9]at d0;have j3:w.heap.size<=tb:=by have:=H6.gr.size;omega
   have g8:=Kh (H6.grow a6);have i4:=Kh d0;clear H6 a6 d0 b9 d9 h7;go_wp2;clear g1
   go_loopg [9,26] np (fun gh v9 v26 wr=>∃i:Nat,gh+i=np/\v26=.int .i64 i/\Arr wr tb 5 (u8s (pZ (mN (M s)) np i))/\ClS w mb np M A s s sa sd l wr)
   case atStart=>exact⟨0,rfl,rfl,by rw[iF,u8s_replicate];exact i4.out,g8.out⟩
   case round =>
    clear i4 g8 w1;obtain⟨i,g6,rfl,c0,H6⟩:=hrel;have c4:=Kh g6;clear g6;by_cases hi:i<np
    ·have j4:(i:Int)<np:=by omega
     have hg:=H6.gr;have h7:=Kh H6;have i3:=Kh c0;have H3:=a2.out wr s i hg hs (by have:=f8.out;omega);rw[j6.out s i hi]at H3;have b8:Hid ((mN (M s)).getD i 0=if (M s).getD i false=true then 1 else 0):=Kh (mN_get (by rw[a1.out];exact hi));obtain⟨b,hb⟩:∃b,b=(M s).getD i false:=⟨_,rfl⟩;rw[<-hb]at H3 b8;have a7:=Kh H3;clear H3 hb hg c0 H6;go_wp2_with fail;refine a7.out.mono ?_;rintro e w2 ⟨rfl,H9⟩;have c5:=Kh (i3.out.kept H9 (by simp));have a0:=Kh (h7.out.grow H9);clear H9 a7 i3 h7;cases b with
     | false =>
      have HE:=Kh (fillL_stay (l:=mN (M s)) (np:=np) (j:=i) (by rw[rG,a1.out]) hi b8.out);go_wp2;go_roundg (np-(i+1))
      case measure=>have:=c4.out;omega
      case rel=>exact⟨i+1,by have:=c4.out;omega,by go_num,by rw[HE.out];exact c5.out,a0.out⟩
     | true =>
      have HE:=Kh (jJ (l:=mN (M s)) (np:=np) (j:=i) (by rw[rG,a1.out]) hi);rw[b8.out]at HE;have e8:(pZ (mN (M s)) np i).length=np:=pG (by rw[rG,a1.out]) (by omega);have c1:=aH c5.out i (by rw[e8];exact hi);have f1:=c5.out.frozen i;have a8:=c5.out.set i (by rw[cO,e8];exact hi) (.int .u8 1);rw[show (u8s (pZ (mN (M s)) np i)).set i (.int .u8 1)=u8s (pZ (mN (M s)) np (i+1)) by rw[<-HE.out];exact fD _ i 1]at a8;have f4:=Kh a8;have H7:=Kh (a0.out.bytes c5.out j3 (zC w2 ⟨tb,i,none⟩ (.int .u8 1)));have j9:=c5.out.lt;clear a8 e8;go_wp2;go_roundg (np-(i+1))
      case measure=>have:=c4.out;omega
      case rel=>exact⟨i+1,by have:=c4.out;omega,by go_num,f4.out,H7.out⟩
    ·have hin:i=np:=by have:=c4.out;omega
     have j4:¬(i:Int)<np:=(by omega);rw[eU (by rw[rG,a1.out]) hin]at c0;have b4:=c0;have d6:∀W:World,wr.grownBy W none->(convert 106 9 (.slice (some ⟨tb,0,none⟩) np np)).run Try.prog W=.ok (.string (mT (M s))) W:=fun W hW=>oL 106 5 Try.underlying106 Try.underlying5 9 Try.underlying9 np np (by rw[qAV,rG,a1.out]) (c0.kept hW (by simp));obtain⟨U,hU⟩:∃U,U=mT (M s):=⟨_,rfl⟩;rw[<-hU]at d6;have c7:=d6 wr (zH _ _);have k0:=Kh d6;obtain⟨u,c,hu,b1⟩:=H6.map;have H4:=b1.lookup i1.out (x:=M s) (a1.out s);have HU:=Kh hU;have f3:=Kh hu;have H5:=Kh b1;have h7:=Kh H6;have HA:=Kh (f9.out s)
     have d4:Hid (∀W:World,wr.grownBy W none->Calls Try.prog 69 #[.pointer (some ⟨o,0,none⟩),.int .i64 (s:Int),.int .i64 (np:Int)] W fun e w'=>e=.returned (.bool (A s))/\W.grownBy w' none):=Kh (fun W hW=>by
      have:=a2.out W s np (zA H6.gr hW (by simp)) hs f8.out
      rwa [f9.out s]at this)
     clear hU hu b1 d6 c0 hin c4 H6 HA;by_cases hmem:M s∈l.map ClaV.m
     ·obtain⟨q,hq⟩:∃q,q=(l.map ClaV.m).idxOf (M s):=⟨_,rfl⟩
      have H0:q<l.length:=by have:=List.idxOf_lt_length_of_mem hmem;rw[<-hq,List.length_map]at this;exact this
      have g0:(l.getD q default).m=M s:=by
       rw[zG H0];have h1:=List.getElem_idxOf (x:=M s) (xs:=l.map ClaV.m) (by rw[<-hq,List.length_map];exact H0);simp only[<-hq,List.getElem_map]at h1;exact h1
      have e3:Sem.run Try.prog (Instr.lookup 129 (.map (some mb)) (.string U) true) wr=.ok (.tuple #[.int .i64 (q:Int),.bool true]) wr:=by
       rw[numC_of_mem hmem,<-hq]at H4;rw[HU.out];exact H4
      have a0:Hid (ClS w mb np M A s (s+1) sa sd l wr):=Kh ⟨h7.out.own,⟨u,c,Nat.le_succ_of_le f3.out,H5.out⟩,h7.out.cls.old hmem,h7.out.gr,h7.out.mlo⟩;have e2:l.length<=4000:=by have:=h7.out.cls.len_le;omega
      have c2:=Kh H0;have d7:=Kh g0;clear H4 hq g0 hmem H5 h7 H0;obtain⟨nl,a9⟩:∃n,n=l.length:=⟨_,rfl⟩;have h6:=Kh a9;rw[<-a9]at e2 c2⊢;have H0:=c2.out;clear a9;obtain⟨ab,b5⟩:∃b,b=A s:=⟨_,rfl⟩;rw[<-b5]at d4;have a3:=Kh b5;clear b5;go_wp2_with fail;clear e3 c7;refine(d4.out _ (zH _ _)).mono ?_;rintro e w2 ⟨rfl,H9⟩;have h8:=a0.out.grow H9;have h2:=h8.own;rw[<-h6.out]at h2;obtain⟨gb,rfl,f2,c8⟩:=bM h2 (by omega);have j0:sd<=9223372036854775807:=by unfold maxLen at c8;omega
      obtain⟨cy,cn,fy,fn⟩:=qCU h2 (i:=q) (by rw[<-h6.out];exact H0);have f6:=Kh (dA l q (s:Int) (by rw[<-h6.out];exact H0));have f7:=Kh (qAM l q (s:Int) (by rw[<-h6.out];exact H0));have b6:=Kh (h8.cls.put (by rw[<-h6.out];exact H0) d7.out);obtain⟨y,hy⟩:∃y,y=(l.getD q default).yes:=⟨_,rfl⟩;obtain⟨z,hz⟩:∃z,z=(l.getD q default).no:=⟨_,rfl⟩;rw[<-hy]at cy;rw[<-hz]at cn;have HY:=Kh hy;have HZ:=Kh hz;have H7:=Kh h8;have h5:=Kh h2;have e5:gb<w2.heap.size:=(h2.lt gb rfl).2;have e4:w.heap.size<=gb:=(h2.lt gb rfl).1;have i8:(q:Int)<nl:=(by omega);clear H9 h8 h2 hy hz f2 c8 a0
      have h9:Hid (∀(x:ClaV) (W:World),putC (l.getD q default) (A s) s=x->(x.m=(l.getD q default).m)->W.ownsRow w.heap.size 99 3 (.slice (some ⟨gb,0,none⟩) nl sd) nl (sH (l.set q x))->w2.grownBy W (some gb)->ClS w mb np M A (s+1) (s+1) (some ⟨gb,0,none⟩) sd (l.set q x) W):=Kh (fun x W hx hxm ho hg=>by
       obtain⟨u3,c3,d8,c6⟩:=H7.out.map;refine⟨by rw[List.length_set,<-h6.out];exact ho,⟨u3,c3,d8,?_⟩,by have:=b6.out;rw[hx]at this;exact this,zA H7.out.gr hg (fun k e=>by have e:gb=k:=Oj e;omega),H7.out.mlo⟩;rw[qEW (by rw[<-h6.out];exact H0) hxm]
       exact c6.kept hg (fun e=>yL (es:=#[]) (clock:=0) H7.out.own c6.obj (by rw[<-e];rfl)))
      have h4:Hid (l.set q (l.getD q default)=l):=Kh (by
       rw[zG (by rw[<-h6.out];exact H0)]
       exact List.set_getElem_self _)
      cases ab with
      | true =>
       by_cases hy0:y<0
       ·have h0:=rE (i:=q*3+1) h5.out (.int .i64 (s:Int))
        rw[f6.out]at h0;have h3:=Kh (h9.out ⟨(l.getD q default).m,(s:Int),(l.getD q default).no⟩ _ (by rw[putC,if_pos a3.out.symm,if_pos (by rw[<-HY.out];exact hy0)]) rfl h0 (zC w2 ⟨gb,q*3+1,none⟩ _));clear h0;go_wp2;go_roundg (m-(s+1))
        case measure=>have:=H1.out;omega
        case rel=>exact⟨s+1,_,_,l.set q ⟨(l.getD q default).m,(s:Int),(l.getD q default).no⟩,by have:=H1.out;omega,by go_num,by rw[List.length_set,<-h6.out],h3.out⟩
       ·have h3:=Kh (h9.out (l.getD q default) w2 (by rw[putC,if_pos a3.out.symm,if_neg (by rw[<-HY.out];exact hy0)]) rfl (by rw[h4.out];exact h5.out) (zH _ _))
        rw[h4.out]at h3;go_wp2;go_roundg (m-(s+1))
        case measure=>have:=H1.out;omega
        case rel=>exact⟨s+1,_,_,l,by have:=H1.out;omega,by go_num,by rw[<-h6.out],h3.out⟩
      | false =>
       by_cases hz0:z<0
       ·have h0:=rE (i:=q*3+2) h5.out (.int .i64 (s:Int))
        rw[f7.out]at h0;have h3:=Kh (h9.out ⟨(l.getD q default).m,(l.getD q default).yes,(s:Int)⟩ _ (by rw[putC,<-a3.out,if_neg (by simp),if_pos (by rw[<-HZ.out];exact hz0)]) rfl h0 (zC w2 ⟨gb,q*3+2,none⟩ _));clear h0;go_wp2;go_roundg (m-(s+1))
        case measure=>have:=H1.out;omega
        case rel=>exact⟨s+1,_,_,l.set q ⟨(l.getD q default).m,(l.getD q default).yes,(s:Int)⟩,by have:=H1.out;omega,by go_num,by rw[List.length_set,<-h6.out],h3.out⟩
       ·have h3:=Kh (h9.out (l.getD q default) w2 (by rw[putC,<-a3.out,if_neg (by simp),if_neg (by rw[<-HZ.out];exact hz0)]) rfl (by rw[h4.out];exact h5.out) (zH _ _))
        rw[h4.out]at h3;go_wp2;go_roundg (m-(s+1))
        case measure=>have:=H1.out;omega
        case rel=>exact⟨s+1,_,_,l,by have:=H1.out;omega,by go_num,by rw[<-h6.out],h3.out⟩
     ·have e3:Sem.run Try.prog (Instr.lookup 129 (.map (some mb)) (.string U) true) wr=.ok (.tuple #[.int .i64 0,.bool false]) wr:=by
       rw[numC_not hmem]at H4;rw[HU.out];exact H4
      have d2:=Kh hmem;have e1:l.length<=s:=h7.out.cls.len_le;clear H4 hmem;obtain⟨n0,e0⟩:∃n,n=l.length:=⟨_,rfl⟩;have b7:=Kh e0;rw[<-e0]at e1⊢;clear e0;go_upto_region 17 with (first|(at_mapUpdate;refine pS i1.out rfl _ _ _ rfl mb u c (numC l) (M s) n0 rfl ?k1 rfl H5.out (by have:=f3.out;unfold maxLen;omega) (a1.out s) (by omega) ?_;(case k1=>(show _=Value.string (mT (M s));rw[<-HU.out];rfl));intro w8 g4 d5)|fail)
      have b0:(Value.slice sa n0 sd).ownBlock≠some mb:=by rw[b7.out];exact yL (es:=#[]) (clock:=0) h7.out.own H5.out.obj
      have a5:w8.ownsRow w.heap.size 99 3 (.slice sa n0 sd) n0 (sH l):=by
       have:=h7.out.own.kept d5 (.inr (by rw[<-b7.out];exact fun e=>b0 e))
       rwa [<-b7.out]at this
      have g3:MapK 9 (fun m:List Bool=>m.length=np) (fun m=>.string (mT m)) w8 mb (u+1) (if (numC l (M s)).isSome=true then c else c+1) (numC (l++[⟨M s,-1,-1⟩])):=by
       rw[<-numC_snoc (c:=⟨M s,-1,-1⟩) d2.out,<-b7.out];exact g4
      have e7:=zA h7.out.gr d5 (fun k e=>by have e:mb=k:=Oj e;have:=h7.out.mlo;omega);have c9:=b4.kept d5 (fun e=>by have e:mb=tb:=Oj e;obtain⟨es,cl,hb⟩:=H5.out.obj;obtain⟨cs,r,g7,_⟩:=id b4;rw[<-e,hb]at g7;simp at g7)
      have e9:(convert 106 9 (.slice (some ⟨tb,0,none⟩) np np)).run Try.prog w8=.ok (.string U) w8:=by
       rw[HU.out];exact oL 106 5 Try.underlying106 Try.underlying5 9 Try.underlying9 np np (by rw[qAV,rG,a1.out]) c9
      have H8:=Kh a5;have i0:=Kh g3;have i2:=Kh e7;have d1:=Kh b0;have i5:=e7.size;clear g4 d5 a5 g3 e7 c7 e3 c9 b0 b4;go_upto_region 18 with (first|(at_builtin;refine vV rfl _ _ _ rfl qAI w.heap.size (.slice sa n0 sd) n0 (sH l) rfl H8.out [.string U,.int .i64 (-1),.int .i64 (-1)] rfl rfl ?z1 ?z2 ?z3 ?z4 ?_;(case z1=>(intro v hv;simp only[List.mem_cons,List.not_mem_nil,or_false]at hv;rcases hv with rfl|rfl|rfl<;>rfl));(case z2=>(unfold maxLen;omega));(case z3=>(show (n0+1)*32<=140737488355328;omega));(case z4=>exact i5);intro sv cv wM a4 e6 j2)|fail)
      obtain⟨l9,b3⟩:∃l9,l9=l++[(⟨M s,-1,-1⟩:ClaV)]:=⟨_,rfl⟩;have j7:=Kh b3;have b2:l9.length=n0+1:=by rw[b3,List.length_append,b7.out];rfl
      have a0:Hid (ClS w mb np M A s (s+1) sv cv l9 wM):=Kh ⟨by
       rw[b2,b3,iH,show cval ⟨M s,-1,-1⟩=[.string U,.int .i64 (-1),.int .i64 (-1)] by rw[HU.out];rfl]
       exact a4,⟨u+1,_,by have:=f3.out;omega,by rw[b3];exact i0.out.kept e6 d1.out⟩,by rw[b3];exact h7.out.cls.new d2.out,zA i2.out e6 (fun k e=>(H8.out.lt k e).1),h7.out.mlo⟩
      have c2:Hid (n0<l9.length):=Kh (by omega)
      have d7:Hid ((l9.getD n0 default).m=M s):=Kh (by
       rw[b3,List.getD_eq_getElem?_getD,b7.out];simp)
      have j8:=Kh a0.out.gr;clear a4 e6 j2 e9 b3 H8 i0 i2 d1 h7 H5;rw[show (n0+1:Nat)=l9.length from b2.symm];have e2:l9.length<=4000:=by omega
      obtain⟨q,hq⟩:∃q,q=n0:=⟨_,rfl⟩;rw[<-hq]at c2 d7⊢;clear b2 hq b7 j7;obtain⟨nl,a9⟩:∃n,n=l9.length:=⟨_,rfl⟩;have h6:=Kh a9;rw[<-a9]at e2 c2⊢;have H0:=c2.out;clear a9;obtain⟨ab,b5⟩:∃b,b=A s:=⟨_,rfl⟩
      have d3:Hid (∀W:World,wM.grownBy W none->Calls Try.prog 69 #[.pointer (some ⟨o,0,none⟩),.int .i64 (s:Int),.int .i64 (np:Int)] W fun e w'=>e=.returned (.bool ab)/\W.grownBy w' none):=Kh (fun W hW=>by
       have:=a2.out W s np (zA j8.out hW (by simp)) hs f8.out
       rwa [f9.out s,<-b5]at this)
      have a3:=Kh b5;clear b5;go_wp2_with fail;refine(d3.out _ (zH _ _)).mono ?_;rintro e w2 ⟨rfl,H9⟩;have h8:=a0.out.grow H9;have h2:=h8.own;rw[<-h6.out]at h2;obtain⟨gb,rfl,f2,c8⟩:=bM h2 (by omega);have j0:cv<=9223372036854775807:=by unfold maxLen at c8;omega
      obtain⟨cy,cn,fy,fn⟩:=qCU h2 (i:=q) (by rw[<-h6.out];exact H0);have f6:=Kh (dA l9 q (s:Int) (by rw[<-h6.out];exact H0));have f7:=Kh (qAM l9 q (s:Int) (by rw[<-h6.out];exact H0));have b6:=Kh (h8.cls.put (by rw[<-h6.out];exact H0) d7.out);obtain⟨y,hy⟩:∃y,y=(l9.getD q default).yes:=⟨_,rfl⟩;obtain⟨z,hz⟩:∃z,z=(l9.getD q default).no:=⟨_,rfl⟩;rw[<-hy]at cy;rw[<-hz]at cn;have HY:=Kh hy;have HZ:=Kh hz;have H7:=Kh h8;have h5:=Kh h2;have e5:gb<w2.heap.size:=(h2.lt gb rfl).2;have e4:w.heap.size<=gb:=(h2.lt gb rfl).1;have i8:(q:Int)<nl:=(by omega);clear H9 h8 h2 hy hz f2 c8 a0
      have h9:Hid (∀(x:ClaV) (W:World),putC (l9.getD q default) (A s) s=x->(x.m=(l9.getD q default).m)->W.ownsRow w.heap.size 99 3 (.slice (some ⟨gb,0,none⟩) nl cv) nl (sH (l9.set q x))->w2.grownBy W (some gb)->ClS w mb np M A (s+1) (s+1) (some ⟨gb,0,none⟩) cv (l9.set q x) W):=Kh (fun x W hx hxm ho hg=>by
       obtain⟨u3,c3,d8,c6⟩:=H7.out.map;refine⟨by rw[List.length_set,<-h6.out];exact ho,⟨u3,c3,d8,?_⟩,by have:=b6.out;rw[hx]at this;exact this,zA H7.out.gr hg (fun k e=>by have e:gb=k:=Oj e;omega),H7.out.mlo⟩;rw[qEW (by rw[<-h6.out];exact H0) hxm]
       exact c6.kept hg (fun e=>yL (es:=#[]) (clock:=0) H7.out.own c6.obj (by rw[<-e];rfl)))
      have h4:Hid (l9.set q (l9.getD q default)=l9):=Kh (by
       rw[zG (by rw[<-h6.out];exact H0)]
       exact List.set_getElem_self _)
      cases ab with
      | true =>
       by_cases hy0:y<0
       ·have h0:=rE (i:=q*3+1) h5.out (.int .i64 (s:Int))
        rw[f6.out]at h0;have h3:=Kh (h9.out ⟨(l9.getD q default).m,(s:Int),(l9.getD q default).no⟩ _ (by rw[putC,if_pos a3.out.symm,if_pos (by rw[<-HY.out];exact hy0)]) rfl h0 (zC w2 ⟨gb,q*3+1,none⟩ _));clear h0;go_wp2;go_roundg (m-(s+1))
        case measure=>have:=H1.out;omega
        case rel=>exact⟨s+1,_,_,l9.set q ⟨(l9.getD q default).m,(s:Int),(l9.getD q default).no⟩,by have:=H1.out;omega,by go_num,by rw[List.length_set,<-h6.out],h3.out⟩
       ·have h3:=Kh (h9.out (l9.getD q default) w2 (by rw[putC,if_pos a3.out.symm,if_neg (by rw[<-HY.out];exact hy0)]) rfl (by rw[h4.out];exact h5.out) (zH _ _))
        rw[h4.out]at h3;go_wp2;go_roundg (m-(s+1))
        case measure=>have:=H1.out;omega
        case rel=>exact⟨s+1,_,_,l9,by have:=H1.out;omega,by go_num,by rw[<-h6.out],h3.out⟩
      | false =>
       by_cases hz0:z<0
       ·have h0:=rE (i:=q*3+2) h5.out (.int .i64 (s:Int))
        rw[f7.out]at h0;have h3:=Kh (h9.out ⟨(l9.getD q default).m,(l9.getD q default).yes,(s:Int)⟩ _ (by rw[putC,<-a3.out,if_neg (by simp),if_pos (by rw[<-HZ.out];exact hz0)]) rfl h0 (zC w2 ⟨gb,q*3+2,none⟩ _));clear h0;go_wp2;go_roundg (m-(s+1))
        case measure=>have:=H1.out;omega
        case rel=>exact⟨s+1,_,_,l9.set q ⟨(l9.getD q default).m,(l9.getD q default).yes,(s:Int)⟩,by have:=H1.out;omega,by go_num,by rw[List.length_set,<-h6.out],h3.out⟩
       ·have h3:=Kh (h9.out (l9.getD q default) w2 (by rw[putC,<-a3.out,if_neg (by simp),if_neg (by rw[<-HZ.out];exact hz0)]) rfl (by rw[h4.out];exact h5.out) (zH _ _))
        rw[h4.out]at h3;go_wp2;go_roundg (m-(s+1))
        case measure=>have:=H1.out;omega
        case rel=>exact⟨s+1,_,_,l9,by have:=H1.out;omega,by go_num,by rw[<-h6.out],h3.out⟩
  ·have i6:s=m:=by have:=H1.out;omega
   have i7:¬(s:Int)<m:=(by omega);subst i6;go_wp2;go_ret;exact⟨l,sa,sd,rfl,h7.out.own,h7.out.cls,h7.out.gr⟩
def qJU (w:World)(d:DfaV)(ps:List (List ByteArray))(e:Ending)(w':World):Prop :=
 ∃v u1 u2 E,e=.returned (.tuple #[v,.string u1,.string u2,.int .i64 E])/\OfOut w' d ps v u1 u2 E/\w.grownBy w' none
def OfRetS (w:World)(d:DfaV)(ps:List (List ByteArray))(e:Ending)(w':World):Prop :=
 ∃v u1 u2 E,e=.returned (.tuple #[v,.string u1,.string u2,.int .i64 E])/\(∀w2,GrownBut w' w2 (fun j=>j<w.heap.size)->OfOut w2 d ps v u1 u2 E)/\w.grownBy w' none
theorem cQ (w:World)(c1:Array Value)(e1:Nat)(c2:Array Value)(e2:Nat):((w.alloc (.cells c1 e1)).alloc (.cells c2 e2)).heap[w.heap.size]?=some (.cells c1 e1 (0,0))/\((w.alloc (.cells c1 e1)).alloc (.cells c2 e2)).heap[w.heap.size+1]?=some (.cells c2 e2 (0,0))/\w.grownBy ((w.alloc (.cells c1 e1)).alloc (.cells c2 e2)) none/\((w.alloc (.cells c1 e1)).alloc (.cells c2 e2)).heap.size=w.heap.size+2 :=
 ⟨pY w _ _,pW w _ _,vO (Ga w _ none) _,by rw[zL,zL]⟩
theorem cofS_any (Bd:Nat)(w:World)(dv pv:Value)(d:DfaV)(ps:List (List ByteArray))(hBd:Bd<=w.heap.size)(hd:tE Bd w dv d)(hp:vS Bd w pv ps)(hp4:ps.length<=4096):Calls Try.prog 19 #[dv,pv] w (OfRetS w d ps):=by
 have e5:=hd;obtain⟨fv,nv,rfl,hf,hn⟩:=hd;obtain⟨fa,fc,rfl⟩:=hf.shape;rw[xC]at e5 hf⊢;obtain⟨na,nc,rfl⟩:=hn.shape;obtain⟨pa,pc,rfl⟩:=hp.shape;obtain⟨np,i9⟩:∃n,n=ps.length:=⟨_,rfl⟩;obtain⟨fl,o8⟩:∃n,n=d.final.length:=⟨_,rfl⟩;obtain⟨nl,o2⟩:∃n,n=d.next.length:=⟨_,rfl⟩;obtain⟨dl,k5⟩:∃n,n=d.letters:=⟨_,rfl⟩;obtain⟨ds,o9⟩:∃n,n=d.start:=⟨_,rfl⟩;have H0:=Kh i9;have HP:=Kh hp;have y1:=Kh k5;rw[<-i9]at hp4 HP⊢;rw[<-o8,<-o2,<-k5,<-o9]at e5⊢;have HD:=Kh e5;obtain⟨e9,g6,g5,m5⟩:=cQ w #[.int .i64 dl,.int .i64 ds,.slice fa fl fc,.slice na nl nc] 42 #[.slice none 0 0,.slice none 0 0,.int .i64 0] 25;obtain⟨wA,l0⟩:∃wA,wA=(w.alloc (.cells #[.int .i64 dl,.int .i64 ds,.slice fa fl fc,.slice na nl nc] 42)).alloc (.cells #[.slice none 0 0,.slice none 0 0,.int .i64 0] 25):=⟨_,rfl⟩;rw[<-l0]at e9 g6 g5 m5;obtain⟨c0,c1,c2,c3⟩:=zF e9;obtain⟨Q,hQ⟩:∃Q,Q=w.heap.size:=⟨_,rfl⟩;obtain⟨P,hP⟩:∃P,P=w.heap.size+1:=⟨_,rfl⟩;have t7:=Kh hQ;have q4:Hid (P=Q+1):=Kh (by omega);have d4:Hid (w.heap.size<=P):=Kh (by omega);rw[<-hP]at g6;rw[<-hQ]at e9 c0 c1 c2 c3;have y5:=Kh e9;have y4:=Kh g6;have x9:=Kh g5;have s5:=Kh l0;have y2:=Kh (e5.kept g5 (by simp));have s0:Bd<=wA.heap.size:=by omega
 have l2:=Kh (rR Bd wA _ d s0 y2.out);obtain⟨E,hE⟩:∃E,E=wI d:=⟨_,rfl⟩;rw[<-hE]at l2;have HE:=Kh hE;clear e9 g6 g5 l0 m5 hP hQ hf hn e5 hp i9 o8 o2 k5 o9 hE;go_enter Try.func19,Try.ntmps19;go_upto_region 1 with fail;rw[<-s5.out,<-t7.out,<-q4.out];go_wp2_with fail;refine l2.out.mono ?_;rintro e w1 ⟨rfl,b8⟩;have h2:=Kh (zA x9.out b8 (by simp));have h0:=Kh (zB y4.out b8 (by simp));have H8:=Kh (zB y5.out b8 (by simp));have y9:=Kh b8;clear b8 l2 c0 c1 c2 c3;by_cases hE0:E=0
 case neg =>
  have h6:Hid (ofE d ps=E):=Kh (by rw[qGX (by rw[<-HE.out];exact hE0),HE.out]);have l6:=Kh hE0;have e1:(E != 0)=true:=by rw[bne_iff_ne];exact hE0
  clear hE0;have h4:=h0.out;obtain⟨f40,f41,f42,e0,v0,v1,v2⟩:=tJ h4;go_wp2;obtain⟨w9,H7,g1,z1,q0,q1,q2⟩:=rU h4 (.slice none 0 0) (.slice none 0 0) (.int .i64 0);rw[<-H7];refine bodyPost_ret (v:=.tuple #[.agg #[.slice none 0 0,.slice none 0 0,.int .i64 0],.string ⟨#[]⟩,.string ⟨#[]⟩,.int .i64 E]) (by simp[results,Try.results19,go_sem,q0,q1,q2,Result.andThen]) rfl ?_;exact⟨_,_,_,_,rfl,(fun w2 d0=>by have:=OfOut.bad (w':=w2) (d:=d) (ps:=ps) (by rw[h6.out];exact l6.out);rwa [h6.out]at this),zA h2.out g1 (fun j e=>by have e:P=j:=Oj e;have:=d4.out;omega)⟩
 case pos =>
  have g8:Hid (wI d=0):=Kh (by rw[<-HE.out];exact hE0);subst hE0;by_cases h3:300<np
  case pos =>
   have s3:(300:Int)<np:=(by omega);have h6:Hid (ofE d ps=3):=Kh (ofE_many g8.out (by rw[<-H0.out];exact h3));have h4:=h0.out;obtain⟨f40,f41,f42,e0,v0,v1,v2⟩:=tJ h4;go_wp2;obtain⟨w9,H7,g1,z1,q0,q1,q2⟩:=rU h4 (.slice none 0 0) (.slice none 0 0) (.int .i64 0);rw[<-H7];refine bodyPost_ret (v:=.tuple #[.agg #[.slice none 0 0,.slice none 0 0,.int .i64 0],.string ⟨#[]⟩,.string ⟨#[]⟩,.int .i64 3]) (by simp[results,Try.results19,go_sem,q0,q1,q2,Result.andThen]) rfl ?_;exact⟨_,_,_,_,rfl,(fun w2 d0=>by have:=OfOut.bad (w':=w2) (d:=d) (ps:=ps) (by rw[h6.out];decide);rwa [h6.out]at this),zA h2.out g1 (fun j e=>by have e:P=j:=Oj e;have:=d4.out;omega)⟩
  case neg =>
   have s3:¬(300:Int)<np:=(by omega);have l5:Hid (ofE d ps=vI d.letters ps):=Kh (ofE_pats g8.out (by rw[<-H0.out];exact h3));have f1:=Kh (aG g8.out);have g3:=f1.out.hk;have j9:=f1.out.k1;have j8:=f1.out.k6;obtain⟨k,hk⟩:∃k,k=d.letters.toNat:=⟨_,rfl⟩;rw[<-hk]at g3 j9 j8 f1;have r9:dl=(k:Int):=by rw[y1.out,g3]
   have HK:Hid (d.letters=(k:Int)):=Kh g3;have a4:=Kh hk;subst r9;clear g3 hk;have g0:=h0;have c9:Hid (Calls Try.prog 56 #[.slice pa np pc,.int .i64 (k:Int)] w1 (qDA w1 (vI (k:Int) ps) (autD ps (k:Int)))):=Kh (automata_any Bd w1 _ ps (k:Int) (by have:=h2.out.size;omega) (HP.out.kept h2.out (by simp)) (by rw[<-H0.out];exact hp4));obtain⟨E2,a3⟩:∃E,E=vI (k:Int) ps:=⟨_,rfl⟩;rw[<-a3]at c9;rw[HK.out,<-a3]at l5;obtain⟨c0,c1,c2,c3⟩:=zF H8.out;have y6:=h2.out.size;clear a3;go_wp2_with fail;refine c9.out.mono ?_;rintro e w2 ⟨sa,n2,sc,rfl,b7,f0⟩;have h2:=Kh (zA h2.out b7 (by simp));have h0:=Kh (zB h0.out b7 (by simp));have H8:=Kh (zB H8.out b7 (by simp));have r5:=Kh f0;have h5:Hid (w1.heap.size<=w2.heap.size):=Kh b7.size;clear b7 f0 c9 c0 c1 c2 c3;by_cases a3:E2=0
   case neg =>
    have h6:=l5;have l6:=Kh a3;have e1:(E2 != 0)=true:=by rw[bne_iff_ne];exact a3
    clear a3;have h4:=h0.out;obtain⟨f40,f41,f42,e0,v0,v1,v2⟩:=tJ h4;go_wp2;obtain⟨w9,H7,g1,z1,q0,q1,q2⟩:=rU h4 (.slice none 0 0) (.slice none 0 0) (.int .i64 0);rw[<-H7];refine bodyPost_ret (v:=.tuple #[.agg #[.slice none 0 0,.slice none 0 0,.int .i64 0],.string ⟨#[]⟩,.string ⟨#[]⟩,.int .i64 E2]) (by simp[results,Try.results19,go_sem,q0,q1,q2,Result.andThen]) rfl ?_;exact⟨_,_,_,_,rfl,(fun w2 d0=>by have:=OfOut.bad (w':=w2) (d:=d) (ps:=ps) (by rw[h6.out];exact l6.out);rwa [h6.out]at this),zA h2.out g1 (fun j e=>by have e:P=j:=Oj e;have:=d4.out;omega)⟩
   case pos =>
    obtain⟨-,j2,lp,j5,n6⟩:=r5.out.resolve_left (fun h=>h a3);have p2:ofE d ps=0:=by rw[l5.out,a3]
    have b1:=Kh p2;have j1:n2=np:=by rw[j2,xG,H0.out]
    subst j1;subst a3;have o4:lp.length=n2:=by have:=congrArg List.length j5;rw[List.length_map,<-j2]at this;exact this
    have b0:=Kh n6;have x5:=Kh j5;have q7:=Kh o4;clear j2 j5 n6 r5 o4 p2;go_upto_region 9 with fail;obtain⟨w5,c5⟩:∃w5,w5=w2.drew:=⟨_,rfl⟩;have h9:w2.grownBy w5 none:=(by rw[c5];exact zO w2 none);have l1:=Kh c5;have h2:=Kh (zA h2.out h9 (by simp));have h0:=Kh (zB h0.out h9 (by simp));have H8:=Kh (zB H8.out h9 (by simp));have b0:=Kh (b0.out.grow h9);have h5:Hid (w1.heap.size<=w5.heap.size):=Kh (Nat.le_trans h5.out h9.size);have C5:Hid (w5.cell? ⟨Q,0,none⟩=some (.int .i64 (k:Int))/\w5.cell? ⟨Q,1,none⟩=some (.int .i64 ds)/\w5.cell? ⟨Q,2,none⟩=some (.slice fa fl fc)/\w5.cell? ⟨Q,3,none⟩=some (.slice na nl nc)):=Kh (zF H8.out);have f3:Hid (Calls Try.prog 58 #[.agg #[.int .i64 (k:Int),.int .i64 ds,.slice fa fl fc,.slice na nl nc]] w5 (qDT w5 (minD d k))):=Kh (qEN Bd w5 _ d _ k (by have:=h2.out.size;omega) (HD.out.kept h2.out (by simp)) f1.out (qGI g8.out));clear h9 c5;refine wp_region_noPanic ?_;refine yY (G:=uI 7 (fun _=>True) (fun W=>W.cell? ⟨Q,0,none⟩=some (.int .i64 (k:Int))/\W.cell? ⟨Q,1,none⟩=some (.int .i64 ds)/\W.cell? ⟨Q,2,none⟩=some (.slice fa fl fc)/\W.cell? ⟨Q,3,none⟩=some (.slice na nl nc))) (by kernel_rfl) ?_;rw[<-l1.out];refine zV 0 ⟨trivial,fun _=>C5.out⟩ ?_;refine zV 5 ⟨trivial,fun _=>C5.out⟩ ?_;refine uA 6 ⟨trivial,fun _=>C5.out⟩ ?_;obtain⟨k1,k2,k3,k4⟩:=C5.out;refine oneG (i:=1) (by kernel_rfl) rfl (fun K hK=>?_);go_simp;refine hK.out _ _ ⟨trivial,fun _=>C5.out⟩ ?_;clear hK K k1 k2 k3 k4
    try simp only[Act.put,sPa,sPb,sPc]
    refine oneG (i:=2) (by kernel_rfl) rfl (fun K hK=>?_);go_simp
    go_at_call 58
    refine f3.out.mono ?_;rintro e w6 ⟨v6,rfl,d8,h8⟩;obtain⟨f6,x6,rfl,i4⟩:=d8.t;obtain⟨fa6,fl6,fc6,na6,nl6,nc6,rfl,rfl⟩:=i4.shapes;have q3:=Kh i4;have h2:=Kh (zA h2.out h8 (by simp));have h0:=Kh (zB h0.out h8 (by simp));have H8:=Kh (zB H8.out h8 (by simp));have b0:=Kh (b0.out.grow h8);have h5:Hid (w1.heap.size<=w6.heap.size):=Kh (Nat.le_trans h5.out h8.size);have C6:Hid (w6.cell? ⟨Q,0,none⟩=some (.int .i64 (k:Int))/\w6.cell? ⟨Q,1,none⟩=some (.int .i64 ds)/\w6.cell? ⟨Q,2,none⟩=some (.slice fa fl fc)/\w6.cell? ⟨Q,3,none⟩=some (.slice na nl nc)):=Kh (zF H8.out);obtain⟨ml,j4⟩:∃x,x=(minD d k).letters:=⟨_,rfl⟩;obtain⟨ms,j3⟩:∃x,x=(minD d k).start:=⟨_,rfl⟩;rw[<-j4,<-j3];have x1:=Kh j4;have x0:=Kh j3;refine hK.out _ _ ⟨trivial,fun _=>C6.out⟩ ?_;clear hK K C5 d8 h8 i4 f3 j4 j3
    try simp only[Act.put,sPa,sPb,sPc]
    refine oneG (i:=3) (by kernel_rfl) rfl (fun K hK=>?_);go_simp;have g4:=heap_alloc_new w6 (.cells #[.int .i64 ml,.int .i64 ms,.slice fa6 fl6 fc6,.slice na6 nl6 nc6] 42);have H9:=Ga w6 (.cells #[.int .i64 ml,.int .i64 ms,.slice fa6 fl6 fc6,.slice na6 nl6 nc6] 42) none;obtain⟨R7,p1⟩:∃R,R=w6.heap.size:=⟨_,rfl⟩;obtain⟨w7,n1⟩:∃w7,w7=w6.alloc (.cells #[.int .i64 ml,.int .i64 ms,.slice fa6 fl6 fc6,.slice na6 nl6 nc6] 42):=⟨_,rfl⟩;rw[<-n1]at g4 H9⊢;rw[<-p1]at g4⊢;have p9:=Kh (q3.out.grow H9);have h2:=Kh (zA h2.out H9 (by simp));have h0:=Kh (zB h0.out H9 (by simp));have H8:=Kh (zB H8.out H9 (by simp));have b0:=Kh (b0.out.grow H9);have h5:Hid (w1.heap.size<=w7.heap.size):=Kh (Nat.le_trans h5.out H9.size);have C7:Hid (w7.cell? ⟨Q,0,none⟩=some (.int .i64 (k:Int))/\w7.cell? ⟨Q,1,none⟩=some (.int .i64 ds)/\w7.cell? ⟨Q,2,none⟩=some (.slice fa fl fc)/\w7.cell? ⟨Q,3,none⟩=some (.slice na nl nc)):=Kh (zF H8.out);refine hK.out _ _ ⟨trivial,fun _=>C7.out⟩ ?_;clear hK K C6 n1 p1 H9 q3
    try simp only[Act.put,sPa,sPb,sPc]
    have g2:=b0.out.own;rw[q7.out]at g2;have m7:=h5.out;refine oneG (i:=4) (by kernel_rfl) rfl (fun K hK=>?_);refine tY rfl (.tmp 38) (.tmp 41) 84 rfl jK w1.heap.size (.slice sa n2 sc) n2 (kI lp) rfl g2 [.int .i64 ml,.int .i64 ms,.slice fa6 fl6 fc6,.slice na6 nl6 nc6] R7 rfl (0,0) rfl g4 ?z1 ?z2 ?z3 m7 ?_
    case z1=>intro v hv;simp only[List.mem_cons,List.not_mem_nil,or_false]at hv;rcases hv with rfl|rfl|rfl|rfl<;>rfl
    case z2=>unfold maxLen;omega
    case z3=>show (n2+1)*64<=140737488355328;omega
    intro sN cN wM d7 e4 r8;have d6:=b0.out.push (v':=.slice sN (n2+1) cN) (x:=(minD d k,.slice fa6 fl6 fc6,.slice na6 nl6 nc6)) p9.out (by rw[q7.out];unfold dval;rw[<-x1.out,<-x0.out];exact d7) e4
    have r3:Hid (DsIn wM.heap.size wM (.slice sN (n2+1) cN) (ofT d ps)):=Kh (by
     have:=d6.in_;rw[List.map_append,x5.out]at this;rw[ofT,HK.out,Int.toNat_natCast]
     exact this)
    have l3:Hid (∀j,(Value.slice sa n2 sc).ownBlock=some j->w1.heap.size<=j):=Kh (fun j e=>(g2.lt j e).1);have f9:=Kh (zB h0.out e4 (fun e=>by have:=l3.out P e;have:=zK g0.out;omega));have l9:=Kh (zB H8.out e4 (fun e=>by have:=l3.out Q e;have:=zK g0.out;have:=q4.out;omega));have q8:=Kh (zA h2.out e4 (fun j e=>by have:=l3.out j e;omega));have CM:Hid (wM.cell? ⟨Q,0,none⟩=some (.int .i64 (k:Int))/\wM.cell? ⟨Q,1,none⟩=some (.int .i64 ds)/\wM.cell? ⟨Q,2,none⟩=some (.slice fa fl fc)/\wM.cell? ⟨Q,3,none⟩=some (.slice na nl nc)):=Kh (zF l9.out);have a1:Hid (Calls Try.prog 57 #[.slice sN (n2+1) cN,.int .i64 (k:Int)] wM (qJF wM (.slice sN (n2+1) cN) (ofT d ps) k)):=Kh (multiply_any wM.heap.size wM _ (ofT d ps) k (Nat.le_refl _) r3.out (by have:=qES b1.out;rwa [<-a4.out]at this) j9 j8 (by rw[uO,<-H0.out];omega));refine hK.out _ _ ⟨trivial,fun _=>CM.out⟩ ?_;clear hK K C7 g2 m7 g4 d7 e4 r8 d6 b0 p9 h5
    try simp only[Act.put,sPa,sPb,sPc]
    refine oneG (i:=7) (by kernel_rfl) rfl (fun K hK=>?_);go_simp
    go_at_call 57
    refine a1.out.mono ?_;rintro e w8 (⟨o1,rfl,a5⟩|⟨o,mb,L,nxl,fr,bl,rfl,b3,c7,g7,r7,b9,a5⟩)
    ·have t8:=Kh o1
     have h2:=Kh (zA q8.out a5 (by simp));have h0:=Kh (zB f9.out a5 (by simp));refine hK.out _ _ ⟨trivial,fun h=>by simp at h⟩ ?_;clear hK K CM o1 a5 a1
     try simp only[Act.put,sPa,sPb,sPc]
     refine zV 8 ⟨trivial,fun h=>by simp at h⟩ ?_;refine zV 9 ⟨trivial,fun h=>by simp at h⟩ ?_;refine zV 10 ⟨trivial,fun h=>by simp at h⟩ ?_;refine zV 11 ⟨trivial,fun h=>by simp at h⟩ ?_;refine zV 12 ⟨trivial,fun h=>by simp at h⟩ ?_;refine rP (by kernel_rfl) ?_ _;refine NoPanic.normal ?_;have h4:=h0.out;obtain⟨f40,f41,f42,e0,v0,v1,v2⟩:=tJ h4;go_wp2;obtain⟨w9,H7,g1,z1,q0,q1,q2⟩:=rU h4 (.slice none 0 0) (.slice none 0 0) (.int .i64 0);rw[<-H7];refine bodyPost_ret (v:=.tuple #[.agg #[.slice none 0 0,.slice none 0 0,.int .i64 0],.string ⟨#[]⟩,.string ⟨#[]⟩,.int .i64 3]) (by simp[results,Try.results19,go_sem,q0,q1,q2,Result.andThen]) rfl ?_;exact⟨_,_,_,_,rfl,(fun w2 d0=>OfOut.over b1.out (by rw[<-a4.out];exact t8.out)),zA h2.out g1 (fun j e=>by have e:P=j:=Oj e;have:=d4.out;omega)⟩
    ·have m3:=Kh c7;have y0:=Kh b9
     have c4:0<L.length:=List.length_pos_of_mem c7.mem0;have d5:=b3.view c4 rfl j9;have h2:=Kh (zA q8.out a5 (by simp));have h0:=Kh (zB f9.out a5 (by simp));have f5:=Kh (r3.out.kept a5 (by simp));have m6:=a5.size;refine hK.out _ _ ⟨trivial,fun h=>by simp at h⟩ ?_;clear hK K CM c7 b9 b3 r7 a5 a1
     try simp only[Act.put,sPa,sPb,sPc]
     refine zV 8 ⟨trivial,fun h=>by simp at h⟩ ?_;refine zV 9 ⟨trivial,fun h=>by simp at h⟩ ?_;refine zV 10 ⟨trivial,fun h=>by simp at h⟩ ?_;refine zV 11 ⟨trivial,fun h=>by simp at h⟩ ?_;refine zV 12 ⟨trivial,fun h=>by simp at h⟩ ?_;refine rP (by kernel_rfl) ?_ _;refine NoPanic.normal ?_;obtain⟨sb,sc8,nb,nc8,fb,fc8,bb,bc8,i3⟩:=d5;have p6:=Kh i3
     have x7:Hid (∀s,s<L.length->InT (ofT d ps) (L.getD s [])):=Kh (fun s hs=>by
      obtain⟨u,hu,e⟩:=m3.out.re (L.getD s []) (by rw[zG hs];exact List.getElem_mem hs);rw[<-e];have i8:=qES b1.out;rw[<-a4.out]at i8
      exact i8.walk u i8.in0 hu)
     have f7:Hid (Calls Try.prog 59 #[.pointer (some ⟨o,0,none⟩),.int .i64 (n2:Int)] w8 (qIG w8 (ofT d ps) n2 L)):=Kh (prodClasses_any wM.heap.size w8 o k _ (ofT d ps) L nxl fr bl sb sc8 nb nc8 fb fc8 bb bc8 n2 m6 i3 f5.out (by have:=qES b1.out;rwa [<-a4.out]at this) (by rw[uO,H0.out]) x7.out (by rw[uO,<-H0.out];omega) g7);clear i3;go_wp2_with fail;refine f7.out.mono ?_;rintro e w10 ⟨l,la,lc,rfl,h7,a7,a6⟩;have t9:=Kh h7;have g9:=Kh a7;have h2:=Kh (zA h2.out a6 (by simp));have h0:=Kh (zB h0.out a6 (by simp));have f2:=Kh (p6.out.grow a6);have e0:=a7.len_le
     have b6:0<l.length:=by
      have h1:=a7.all 0 c4;obtain⟨c,hc,_⟩:=List.mem_map.1 h1;exact List.length_pos_of_mem hc
     have a9:Hid (ClsX (fun j=>j<w10.heap.size) w10 (.slice la l.length lc) l):=Kh (kJ h7 (fun j e=>(h7.lt j e).2));obtain⟨n,hn⟩:∃n,n=l.length:=⟨_,rfl⟩;have HN:=Kh hn;rw[<-hn]at e0 b6 a9⊢;clear hn a6 h7 a7 f7 p6 f5 m6;obtain⟨wo,n0⟩:∃wo:World,wo=w10:=⟨_,rfl⟩;rw[<-n0]at h2 h0 f2 a9⊢;clear n0 t9;go_wp2
     go_loopg [57] n (fun gh v57 wr=>∃kk:Nat,gh+kk=n/\v57=.int .i64 kk/\(∀i,i<kk->kL (l.getD i default)=false)/\wo.grownBy wr none)
     case atStart=>exact⟨0,rfl,rfl,fun i hi=>by omega,zH _ _⟩
     case round =>
      obtain⟨kk,o5,rfl,o3,hg⟩:=hrel;have f4:=Kh o5;have q6:=Kh o3;have x8:=Kh hg;clear o5 o3;by_cases hkn:kk<n
      ·have j7:(kk:Int)<n:=by omega
       obtain⟨b,off,cap,e,_,p0,e7,a0⟩:=(a9.out.grow hg).at_ (by rw[<-HN.out];omega);rw[<-HN.out]at e p0;simp only[Value.slice.injEq,true_and]at e;obtain⟨rfl,rfl⟩:=e;have y7:lc<=9223372036854775807:=by unfold maxLen at e7;omega
       have e3:kk<l.length:=(by rw[<-HN.out];exact hkn);have d1:=a0.m kk e3;have d2:=a0.y kk e3;have d3:=a0.n kk e3;have c8:Hid (l.getD kk default∈l):=Kh (by rw[zG e3];exact List.getElem_mem e3);obtain⟨cc,k9⟩:∃c,c=l.getD kk default:=⟨_,rfl⟩;rw[<-k9]at d1 d2 d3 c8;have y3:=Kh k9;have m0:Hid (kL cc=decide (0<=cc.yes/\0<=cc.no)):=Kh rfl;obtain⟨U,hU⟩:∃U,U=mT cc.m:=⟨_,rfl⟩;obtain⟨y,hy⟩:∃y,y=cc.yes:=⟨_,rfl⟩;obtain⟨z,hz⟩:∃z,z=cc.no:=⟨_,rfl⟩;rw[<-hU]at d1;rw[<-hy]at d2;rw[<-hz]at d3;rw[<-hy,<-hz]at m0;have HY:=Kh hy;have HZ:=Kh hz;have e8:=heap_alloc_new wr (.cells #[.string U,.int .i64 y,.int .i64 z] 99);have k0:=Ga wr (.cells #[.string U,.int .i64 y,.int .i64 z] 99) none;obtain⟨wR,i2⟩:∃wR,wR=wr.alloc (.cells #[.string U,.int .i64 y,.int .i64 z] 99):=⟨_,rfl⟩;obtain⟨R,hR⟩:∃R,R=wr.heap.size:=⟨_,rfl⟩;rw[<-i2]at e8 k0;rw[<-hR]at e8;have s4:=Kh i2;have t6:=Kh hR;have z0:=Kh e8;have a2:=Kh (zA x8.out k0 (by simp));obtain⟨r0,r1,r2⟩:=zN e8;clear a0 p0 e7 hU hy hz i2 hR e8 k0 k9 hg;go_upto_region 16 with fail;rw[<-s4.out,<-t6.out];clear d1 d2 d3;by_cases hyz:0<=y/\0<=z
       case neg =>
        have i0:Hid (kL cc=false):=Kh (by rw[m0.out,decide_eq_false hyz])
        have q5:Hid (∀i,i<kk+1->kL (l.getD i default)=false):=Kh (fun i hi=>by
         rcases Nat.lt_succ_iff_lt_or_eq.1 hi with hi|rfl
         ·exact q6.out i hi
         ·rw[<-y3.out];exact i0.out)
        by_cases i1:0<=y
        ·have m8:¬0<=z:=fun h=>hyz ⟨i1,h⟩
         clear hyz;go_wp2;go_roundg (n-(kk+1))
         case measure=>have:=f4.out;omega
         case rel=>exact⟨kk+1,by have:=f4.out;omega,by go_num,q5.out,a2.out⟩
        ·clear hyz
         go_wp2;go_roundg (n-(kk+1))
         case measure=>have:=f4.out;omega
         case rel=>exact⟨kk+1,by have:=f4.out;omega,by go_num,q5.out,a2.out⟩
       case pos =>
        obtain⟨i1,m8⟩:=hyz;have i0:Hid (kL cc=true):=Kh (by rw[m0.out,decide_eq_true ⟨i1,m8⟩]);obtain⟨yn,zn,e1,e2,m9,m4,b5,b4,d9⟩:=g9.out.both c8.out i0.out;rw[<-HY.out]at e1;rw[<-HZ.out]at e2;subst e1;subst e2;have x4:=Kh b5;have x3:=Kh b4;have x2:=Kh d9;have p5:Hid (∀(W:World) (s:Nat),wR.grownBy W none->s<L.length->Calls Try.prog 60 #[.pointer (some ⟨o,0,none⟩),.int .i64 (s:Int)] W (qIA W (ofT d ps) k L s)):=Kh (fun W s hW hs=>pword_any W o k _ (ofT d ps) L nxl fr bl sb sc8 nb nc8 fb fc8 bb bc8 s (f2.out.grow (zA a2.out hW (by simp))) y0.out j8 hs g7);have p4:=Kh m9;have p3:=Kh m4;clear b5 b4 d9 m9 m4;go_upto_region 17 with fail;obtain⟨w5,c5⟩:∃w5,w5=wR.drew:=⟨_,rfl⟩;have h9:wR.grownBy w5 none:=(by rw[c5];exact zO wR none);have l1:=Kh c5;have q9:=Kh h9;have C5:Hid (w5.cell? ⟨R,1,none⟩=some (.int .i64 (yn:Int))/\w5.cell? ⟨R,2,none⟩=some (.int .i64 (zn:Int))):=Kh ⟨xK r1 h9,xK r2 h9⟩;clear h9 c5 r0 r1 r2;refine wp_region_noPanic ?_;refine yY (G:=uI 8 (fun _=>True) (fun W=>W.cell? ⟨R,1,none⟩=some (.int .i64 (yn:Int))/\W.cell? ⟨R,2,none⟩=some (.int .i64 (zn:Int)))) (by kernel_rfl) ?_;rw[<-l1.out];refine zV 0 ⟨trivial,fun _=>C5.out⟩ ?_;refine zV 1 ⟨trivial,fun _=>C5.out⟩ ?_;refine zV 2 ⟨trivial,fun _=>C5.out⟩ ?_;refine zV 5 ⟨trivial,fun _=>C5.out⟩ ?_;refine zV 6 ⟨trivial,fun _=>C5.out⟩ ?_;refine uA 7 ⟨trivial,fun _=>C5.out⟩ ?_;obtain⟨k1,k2⟩:=C5.out;refine oneG (i:=3) (by kernel_rfl) rfl (fun K hK=>?_);go_simp;refine hK.out _ _ ⟨trivial,fun _=>C5.out⟩ ?_;clear hK K k1 k2
        try simp only[Act.put,sPa,sPb,sPc]
        refine oneG (i:=4) (by kernel_rfl) rfl (fun K hK=>?_);go_simp
        go_at_call 60
        refine(p5.out w5 yn q9.out p4.out).mono ?_;rintro e w6 ⟨u1,n9,n8,n7,rfl,h8⟩;have l7:=Kh (zD q9.out h8);have p8:=Kh n9;have s9:=Kh n8;have s8:=Kh n7;have C6:Hid (w6.cell? ⟨R,1,none⟩=some (.int .i64 (yn:Int))/\w6.cell? ⟨R,2,none⟩=some (.int .i64 (zn:Int))):=Kh ⟨xK C5.out.1 h8,xK C5.out.2 h8⟩;refine hK.out _ _ ⟨trivial,fun _=>C6.out⟩ ?_;clear hK K C5 h8 n9 n8 n7
        try simp only[Act.put,sPa,sPb,sPc]
        refine oneG (i:=8) (by kernel_rfl) rfl (fun K hK=>?_);go_simp
        go_at_call 60
        refine(p5.out w6 zn l7.out p3.out).mono ?_;rintro e w7 ⟨u2,n5,n4,n3,rfl,H9⟩;have p7:=Kh n5;have s7:=Kh n4;have s6:=Kh n3;have h2:=Kh (zA h2.out (zA a2.out (zD l7.out H9) (by simp)) (by simp));have h0:=Kh (zB h0.out (zA a2.out (zD l7.out H9) (by simp)) (by simp));refine hK.out _ _ ⟨trivial,fun h=>by simp at h⟩ ?_;clear hK K C6 H9 n5 n4 n3
        try simp only[Act.put,sPa,sPb,sPc]
        have h4:=h0.out;obtain⟨f40,f41,f42,j6,v0,v1,v2⟩:=tJ h4;refine oneG (i:=9) (by kernel_rfl) rfl (fun K hK=>?_);go_simp;obtain⟨w9,H7,g1,z1,_,_,_⟩:=rU h4 (.slice none 0 0) (.slice none 0 0) (.int .i64 0);rw[<-H7];refine hK.out _ _ ⟨trivial,fun h=>by simp at h⟩ ?_;clear hK K v0 v1 v2 f40 f41 f42
        try simp only[Act.put,sPa,sPb,sPc]
        refine oneG (i:=10) (by kernel_rfl) rfl (fun K hK=>?_);go_simp;refine hK.out _ _ ⟨trivial,fun h=>by simp at h⟩ ?_;clear hK K
        try simp only[Act.put,sPa,sPb,sPc]
        refine oneG (i:=11) (by kernel_rfl) rfl (fun K hK=>?_);go_simp;refine hK.out _ _ ⟨trivial,fun h=>by simp at h⟩ ?_;clear hK K
        try simp only[Act.put,sPa,sPb,sPc]
        refine oneG (i:=12) (by kernel_rfl) rfl (fun K hK=>?_);go_simp;refine hK.out _ _ ⟨trivial,fun h=>by simp at h⟩ ?_;clear hK K
        try simp only[Act.put,sPa,sPb,sPc]
        refine rP (by kernel_rfl) ?_ _;refine NoPanic.normal ?_;obtain⟨q0,q1,q2⟩:=zN z1;have t0:=Kh H7;clear H7 h4;obtain⟨s1,i6⟩:∃s,s=strOfNums (lets u1):=⟨_,rfl⟩;obtain⟨s2,i5⟩:∃s,s=strOfNums (lets u2):=⟨_,rfl⟩;rw[<-i6,<-i5];have t5:=Kh i6;have t4:=Kh i5;clear i6 i5;go_wp2
        try rw[<-t0.out]
        refine bodyPost_ret (v:=.tuple #[.agg #[.slice none 0 0,.slice none 0 0,.int .i64 0],.string s1,.string s2,.int .i64 20]) (by simp[results,Try.results19,go_sem,q0,q1,q2,Result.andThen]) rfl ?_;have a8:=m3.out;rw[a4.out]at a8;have a0:=g9.out;rw[H0.out]at a0;have j0:ps.length<(ofT d ps).length:=(by rw[uO];omega);have b5:=x4.out;rw[H0.out]at b5;have b4:=x3.out;rw[H0.out]at b4;have d9:=x2.out;rw[H0.out]at d9;obtain⟨t1,t2,t3⟩:=of_conf b1.out a8 (by rw[<-a4.out];exact p8.out) (by rw[<-a4.out];exact p7.out) s8.out s6.out b5 b4 d9;refine⟨_,_,_,_,rfl,?_,zA h2.out g1 (fun j e=>by have e:P=j:=Oj e;have:=d4.out;omega)⟩;intro w2 d0;rw[t5.out,t4.out];exact OfOut.conf b1.out ⟨L,a8,g7⟩ (cls_conf j0 a8 a0 c8.out i0.out) u1 u2 (by rw[<-a4.out];exact p8.out) (by rw[<-a4.out];exact p7.out) (by have:=s9.out;have:=p4.out;omega) (by have:=s7.out;have:=p3.out;omega) t1 t2 t3
      ·have j7:¬(kk:Int)<n:=by omega
       have r6:Hid (∀c∈l,kL c=false):=Kh (fun c hc=>by
        obtain⟨i,hi,rfl⟩:=List.getElem_of_mem hc;have:=q6.out i (by have:=f4.out;have:=HN.out;omega)
        rwa [zG hi]at this)
       have b2:=Kh (zA h2.out hg (by simp));have e6:=g9.out;have l8:Hid (Calls Try.prog 61 #[.slice pa n2 pc,.slice la n lc] wr (qJJ wr ps l)):=Kh (diagram_any Bd wr _ _ ps l (by have:=b2.out.size;omega) (HP.out.kept b2.out (by simp)) ((a9.out.grow hg).mono (fun j hj=>Nat.lt_of_lt_of_le hj hg.size)) (by rw[<-HN.out];exact b6) (by rw[<-HN.out];omega) (by rw[<-H0.out];exact clsok_of e6 (fun i=>qG _ _ _)) (by rw[<-H0.out];omega) (of_short b1.out));have f8:=Kh (zB h0.out hg (by simp));clear hg e6;go_wp2_with fail;refine l8.out.mono ?_;rintro e w11 ⟨v11,g,rfl,k8,b8,b7,o7,o6,h9,h8,c6⟩;have k7:=k8 w11 (GrownBut.refl _ _);obtain⟨pv2,cv2,rfl,o0,e7⟩:=k7;obtain⟨ap,cp,rfl⟩:=o0.shape;obtain⟨ac,cc,rfl⟩:=e7.shape;have r4:=Kh k8;have h2:=Kh (zA b2.out c6 (by simp));have h0:=Kh (zB f8.out c6 (by simp));have l4:Hid (P<wr.heap.size):=Kh (zK f8.out);have H1:=Kh b8;have H2:=Kh b7;have H3:=Kh o7;have H4:=Kh o6;have H5:=Kh h9;have H6:=Kh h8;obtain⟨m1,b5⟩:∃m,m=g.pats.length:=⟨_,rfl⟩;obtain⟨m2,b4⟩:∃m,m=g.chos.length:=⟨_,rfl⟩;obtain⟨rt,i7⟩:∃m,m=g.root:=⟨_,rfl⟩;rw[<-b5,<-b4,<-i7]at r4⊢;have y8:=Kh i7;clear k8 o0 e7 c6 b8 b7 o7 o6 h9 h8 b5 b4 i7;have h4:=h0.out;obtain⟨f40,f41,f42,j6,v0,v1,v2⟩:=tJ h4;go_wp2;obtain⟨w9,H7,g1,z1,q0,q1,q2⟩:=rU h4 (.slice ap m1 cp) (.slice ac m2 cc) (.int .i64 rt);rw[<-H7];refine bodyPost_ret (v:=.tuple #[.agg #[.slice ap m1 cp,.slice ac m2 cc,.int .i64 rt],.string ⟨#[]⟩,.string ⟨#[]⟩,.int .i64 0]) (by simp[results,Try.results19,go_sem,q0,q1,q2,Result.andThen]) rfl ?_;have a8:=m3.out;rw[a4.out]at a8;have a0:=g9.out;rw[H0.out]at a0;have j0:ps.length<(ofT d ps).length:=(by rw[uO];omega);refine⟨_,_,_,_,rfl,(fun w2 d0=>OfOut.ok _ g l L b1.out a8 g7 (cls_noconf j0 a8 a0 r6.out) (r4.out w2 (((GrownBut.refl w11 _).step g1 (fun j e=>.inl (show j<wr.heap.size by have e:P=j:=Oj e;have:=l4.out;omega))).trans' d0 (fun j (hj:j<w.heap.size)=>.inl (show j<wr.heap.size by have:=b2.out.size;omega)))) H1.out H2.out H3.out H4.out (of_dec b1.out a8 a0 r6.out H2.out H4.out H5.out) a0 H6.out),zA h2.out g1 (fun j e=>by have e:P=j:=Oj e;have:=d4.out;omega)⟩
theorem qHL (Bd:Nat)(w:World)(dv pv:Value)(d:DfaV)(ps:List (List ByteArray))(hBd:Bd<=w.heap.size)(hd:tE Bd w dv d)(hp:vS Bd w pv ps)(hp4:ps.length<=4096):
  Calls Try.prog 19 #[dv,pv] w (qJU w d ps) :=
 (cofS_any Bd w dv pv d ps hBd hd hp hp4).mono fun _ w' ⟨v,u1,u2,E,he,ho,hg⟩=>⟨v,u1,u2,E,he,ho w' (GrownBut.refl _ _),hg⟩
end Go.Proofs.Ytjfdomfendbhfaa
namespace Go.Proofs.Ytjfdomfendbhfaa
open Go.RowKit
def RDiaRet (w:World)(g:DiaV)(letters:Int)(e:Ending)(w':World):Prop:=∃E m,dZ w E m e w'/\dY g letters E m
theorem qFM {w:World}{f nx:Value}{d:DfaV}{ml ms:Int}(h:DfaT w f nx d)(h1:ml=d.letters)(h2:ms=d.start):tE w.heap.size w (.agg #[.int .i64 ml,.int .i64 ms,f,nx]) d:=by rw[h1,h2];exact h.ok
open Go.Maps
theorem rfinals_nil (w:World)(a:Option Addr)(c:Nat)(sv nv:Value)(i:Nat):Calls Try.prog 53 #[.agg #[.slice a 0 c,sv,nv],.int .i64 (i:Int)] w fun e w'=>e=.returned (.slice none 0 0)/\w.grownBy w' none:=by
 obtain⟨wA,h2⟩:∃wA,wA=w.alloc (.cells #[.slice a 0 c,sv,nv] 88):=⟨_,rfl⟩;have h1:=Ga w (.cells #[.slice a 0 c,sv,nv] 88) none;have h0:=heap_alloc_new w (.cells #[.slice a 0 c,sv,nv] 88);obtain⟨P,hP⟩:∃P,P=w.heap.size:=⟨_,rfl⟩;rw[<-h2]at h1 h0;rw[<-hP]at h0;obtain⟨p0,p1,p2⟩:=zN h0;have h3:=Kh h2;have h4:=Kh hP;have h5:=Kh h1;clear h2 h1 h0 hP;go_enter Try.func53,Try.ntmps53;go_upto_region 1 with fail;rw[<-h3.out,<-h4.out];go_wp2;clear p0 p1 p2
 go_loopg [5,6,11] 0 (fun gh v5 v6 v11 wr=>v11=.int .i64 (0:Nat)/\v5=.slice none 0 0/\wA.grownBy wr none)
 case atStart=>exact⟨rfl,rfl,zH _ _⟩
 case round =>
  obtain⟨rfl,rfl,hg⟩:=hrel;go_wp2;go_ret;exact⟨rfl,zA h5.out hg (by simp)⟩
theorem diaL_fin (g:DiaV)(k:Nat)(L:List (List Nat)):(diaA g k L).final=L.map (finD g (autD g.pats (k:Int))):=rfl
theorem wK.natsInts {B:Nat}{e:TypeId}{w:World}{hs:List Value}{T:List (List Nat)}(h:wK B e nats w hs T):wK B e ints w hs (T.map fun r=>r.map fun x:Nat=>(x:Int)):=by
 refine⟨by rw[List.length_map];exact h.1,fun i h1 h2=>?_⟩;have h3:=h.2 i h1 (by rw[List.length_map]at h2;exact h2)
 have e1:ints ((T.map fun r=>r.map fun x:Nat=>(x:Int))[i])=nats (T[i]'(by rw[List.length_map]at h2;exact h2)):=by
  rw[List.getElem_map];simp[ints,nats]
 rw[e1];exact h3
theorem diaA_ok {w:World}{f nx:Value}{g:DiaV}{k:Nat}{L:List (List Nat)}(h:DfaT w f nx (diaA g k L)):tE w.heap.size w (.agg #[.int .i64 (k:Int),.int .i64 0,f,nx]) (diaA g k L):=h.ok
theorem diaA_min {w:World}{f nx:Value}{g:DiaV}{k n:Nat}{L:List (List Nat)}(h:DfaT w f nx (diaA g k L))(hv:VD (diaA g k L) n k):Calls Try.prog 54 #[.agg #[.int .i64 (k:Int),.int .i64 0,f,nx]] w (qDT w (minD (diaA g k L) k)):=kB w.heap.size w _ (diaA g k L) n k (Nat.le_refl _) (diaA_ok h) hv
theorem rdia_any (Bd:Nat)(w:World)(v:Value)(g:DiaV)(letters:Int)(hBd:Bd<=w.heap.size)(h:oC Bd w v g)(hp4:g.pats.length<=4096)(h14:∀p∈g.pats,patW p letters=0->sQ p<=14):Calls Try.prog 18 #[v,.int .i64 letters] w (RDiaRet w g letters):=by
 have H:=Kh h;obtain⟨pv,cv,rfl,hp,k0⟩:=h;obtain⟨pa,pc,rfl⟩:=hp.shape;obtain⟨ca,cc,rfl⟩:=k0.shape;obtain⟨np,d8⟩:∃n,n=g.pats.length:=⟨_,rfl⟩;obtain⟨nc,j0⟩:∃n,n=g.chos.length:=⟨_,rfl⟩;rw[<-d8,<-j0]at H⊢;rw[<-d8]at hp;have o5:=Kh hp;obtain⟨c6,e5,b9,i4⟩:=cQ w #[.slice pa np pc,.slice ca nc cc,.int .i64 g.root] 25 #[.int .i64 0,.int .i64 0,.slice none 0 0,.slice none 0 0] 42;obtain⟨wA,g0⟩:∃wA,wA=(w.alloc (.cells #[.slice pa np pc,.slice ca nc cc,.int .i64 g.root] 25)).alloc (.cells #[.int .i64 0,.int .i64 0,.slice none 0 0,.slice none 0 0] 42):=⟨_,rfl⟩;rw[<-g0]at c6 e5 b9 i4;obtain⟨P,hP⟩:∃P,P=w.heap.size:=⟨_,rfl⟩;obtain⟨Q,hQ⟩:∃Q,Q=w.heap.size+1:=⟨_,rfl⟩;have l0:=Kh hP;have c7:Hid (Q=P+1):=Kh (by omega);rw[<-hQ]at e5;rw[<-hP]at c6;obtain⟨c0,c1,c2⟩:=zN c6;have a8:=Kh c6;have h3:=Kh e5;have p1:=Kh b9;have n6:=Kh g0;have k7:=Kh (iT Bd wA _ g letters (by have:=b9.size;omega) (H.out.kept b9 (by simp)));have r4:=Kh d8;have q4:=Kh h14;clear c6 e5 b9 g0 hP hQ i4 hp k0 d8 j0 h14;go_enter Try.func18,Try.ntmps18;go_upto_region 1 with fail;rw[<-n6.out,<-l0.out,<-c7.out];go_wp2_with fail;refine k7.out.mono ?_;rintro e w1 ⟨rfl,c3⟩;have f5:=Kh (zA p1.out c3 (by simp));have p0:=Kh c3;have a8:=Kh (zB a8.out c3 (by simp));have h3:=Kh (zB h3.out c3 (by simp));have e7:Hid (w.heap.size=P):=Kh l0.out.symm;clear c3 k7 c0 c1 c2;obtain⟨E,hE⟩:∃E,E=diaE g letters:=⟨_,rfl⟩;rw[<-hE];have HE:=Kh hE;clear hE;by_cases hE0:E=0
 case neg =>
  obtain⟨q0,q1,q2,q3⟩:=zF h3.out;have f0:=zE h3.out 0;have f1:=zE h3.out 1;have f2:=zE h3.out 2;have f3:=zE h3.out 3;have b6:=zK h3.out;have e1:(E != 0)=true:=by rw[bne_iff_ne];exact hE0
  have o8:=Kh hE0;clear hE0;go_wp2;obtain⟨H3,h6⟩:=wF h3.out (.int .i64 0) (.int .i64 0) (.slice none 0 0) (.slice none 0 0);obtain⟨wz,H1⟩:∃wz,wz=(((w1.setCell ⟨Q,0,none⟩ (.int .i64 0)).setCell ⟨Q,1,none⟩ (.int .i64 0)).setCell ⟨Q,2,none⟩ (.slice none 0 0)).setCell ⟨Q,3,none⟩ (.slice none 0 0):=⟨_,rfl⟩;rw[<-H1]at H3 h6⊢;clear H1;obtain⟨r0,r1,r2,r3⟩:=zF H3;clear q0 q1 q2 q3 f0 f1 f2 f3;refine bodyPost_ret (v:=.tuple #[.agg #[.int .i64 0,.int .i64 0,.slice none 0 0,.slice none 0 0],.int .i64 E]) (by simp[results,Try.results18,go_sem,r0,r1,r2,r3]) rfl ?_;exact⟨E,jV,⟨_,_,rfl,DfaT.zero _,zA f5.out h6 (fun k e=>by have h7:Q=k:=Oj e;have:=c7.out;have:=e7.out;omega)⟩,Or.inl ⟨by rw[<-HE.out];exact o8.out,HE.out,rfl⟩⟩
 case pos =>
  subst hE0;obtain⟨c0,c1,c2⟩:=zN a8.out
  have i3:Hid (Calls Try.prog 51 #[.slice pa np pc,.int .i64 letters] w1 (qDA w1 (autE letters g.pats) (autD g.pats letters))):=Kh (by
   exact dQ Bd w1 _ g.pats letters (by have:=f5.out.size;omega) (o5.out.kept f5.out (by simp)) hp4 q4.out)
  obtain⟨F,hF⟩:∃F,F=autE letters g.pats:=⟨_,rfl⟩;rw[<-hF]at i3;have HF:=Kh hF;clear hF;go_wp2_with fail;refine i3.out.mono ?_;rintro e w2 ⟨sa,n2,sc,rfl,e3,a9⟩;have f4:=Kh (zA f5.out e3 (by simp));have a8:=Kh (zB a8.out e3 (by simp));have h3:=Kh (zB h3.out e3 (by simp));clear e3 i3 c0 c1 c2;by_cases hF0:F=0
  case neg =>
   have h9:=diaE_zero4 HE.out.symm;have h8:=HF.out;unfold autE at h8;rw[if_neg (by omega),h9.2.2.2]at h8;exact absurd h8 hF0
  case pos =>
   subst hF0;have h0:diaE g letters=0:=HE.out.symm
   have j3:1<=letters/\letters<=6/\g.pats.length<=300:=by
    unfold diaE at h0
    split at h0
    ·cases h0
    ·split at h0
     ·cases h0
     ·omega
   have i8:vI letters g.pats=0:=by
    have:=HF.out;unfold autE at this;rw[if_neg (by omega)]at this;exact this.symm
   obtain⟨k,hk⟩:∃k:Nat,letters=k:=⟨letters.toNat,by omega⟩;subst hk;have b8:1<=k:=by omega
   have b7:k<=6:=by omega
   have h2:n2=(autD g.pats (k:Int)).length/\∃l,l.map (·.1)=autD g.pats (k:Int)/\DsUp w1.heap.size w2 (.slice sa n2 sc) l:=by
    rcases a9 with h|h
    ·exact absurd rfl h
    ·exact h.2
   obtain⟨d9,lp,j2,i7⟩:=h2;have l4:Hid (DsIn w2.heap.size w2 (.slice sa n2 sc) (autD g.pats (k:Int))):=Kh (by have:=i7.in_;rw[j2]at this;exact this);have H8:=Kh (qHX i8);have o6:=Kh (nV w2.heap.size w2 _ _ k (Nat.le_refl _) l4.out H8.out b8 b7 (by rw[xG];omega))
   have p5:Hid (∀(W:World) (sa':Option Addr) (sc':Nat) (ms:List Bool),w2.grownBy W none->Row W.heap.size W (.slice sa' n2 sc') (bls ms)->ms.length=n2->Calls Try.prog 44 #[.agg #[.slice pa np pc,.slice ca nc cc,.int .i64 g.root],.slice sa' n2 sc'] W fun e w'=>e=.returned (.bool (decG g.chos (fun p=>ms.getD p false) g.root))/\W.grownBy w' none):=Kh (fun W sa' sc' ms hW hr hml=>by
    obtain⟨_,_,_,_,_,m8,m1,m0⟩:=jM HE.out.symm
    exact fQ W.heap.size W _ g _ ms ((H.out.kept (zA f4.out hW (by simp)) (by simp)).mono (Nat.le_trans hBd (zA f4.out hW (by simp)).size)) m8 m1 m0 (by rw[hml,d9,xG];exact Nat.le_refl _) hr)
   have e8:Hid (n2=(autD g.pats (k:Int)).length):=Kh d9;have k5:diaE g (k:Int)=0:=h0;have H0:=Kh k5;have j1:n2<=300:=by rw[d9,xG];exact j3.2.2
   clear h0 k5 j3 i8 a9 d9 j2 i7;go_wp2_with fail;refine o6.out.mono ?_;rintro e w3 m2;rcases m2 with ⟨hov,rfl,hg3⟩|⟨B8,pv8,L,T,rfl,hB8,hpv,hbfs,b6,htok,hg3⟩
   ·obtain⟨w4,a2⟩:∃w4,w4=w3.alloc (.cells #[.slice none 0 0,.slice none 0 0,.slice none 0 0] 88):=⟨_,rfl⟩
    have H4:=Ga w3 (.cells #[.slice none 0 0,.slice none 0 0,.slice none 0 0] 88) none;rw[<-a2]at H4;have g4:=Kh a2;have g9:=Kh (zA (zA f4.out hg3 (by simp)) H4 (by simp));have h3:=Kh (zB (zB h3.out hg3 (by simp)) H4 (by simp));clear a2 H4 hg3;go_upto_region 8 with fail;rw[<-g4.out];obtain⟨q0,q1,q2,q3⟩:=zF h3.out;have f0:=zE h3.out 0;have f1:=zE h3.out 1;have f2:=zE h3.out 2;have f3:=zE h3.out 3;have b6:=zK h3.out;go_wp2;obtain⟨H3,h6⟩:=wF h3.out (.int .i64 0) (.int .i64 0) (.slice none 0 0) (.slice none 0 0);obtain⟨wz,H1⟩:∃wz,wz=(((w4.setCell ⟨Q,0,none⟩ (.int .i64 0)).setCell ⟨Q,1,none⟩ (.int .i64 0)).setCell ⟨Q,2,none⟩ (.slice none 0 0)).setCell ⟨Q,3,none⟩ (.slice none 0 0):=⟨_,rfl⟩;rw[<-H1]at H3 h6⊢;clear H1;obtain⟨r0,r1,r2,r3⟩:=zF H3;clear q0 q1 q2 q3 f0 f1 f2 f3;refine bodyPost_ret (v:=.tuple #[.agg #[.int .i64 0,.int .i64 0,.slice none 0 0,.slice none 0 0],.int .i64 3]) (by simp[results,Try.results18,go_sem,r0,r1,r2,r3]) rfl ?_;exact⟨3,jV,⟨_,_,rfl,DfaT.zero _,zA g9.out h6 (fun k e=>by have h7:Q=k:=Oj e;have:=c7.out;have:=e7.out;omega)⟩,.inr ⟨H0.out,k,rfl,b8,b7,.inl ⟨hov,rfl,rfl⟩⟩⟩
   ·have g2:0<L.length:=by have:=hbfs.hd;rcases Nat.eq_zero_or_pos L.length with h|h;(rw[List.eq_nil_of_length_eq_zero h]at this;cases this);exact h
    obtain⟨sb8,sc8,nv8,a4⟩:=hpv.view g2;obtain⟨sS,sN,cS,cN,q6,m5,i6,m3,b5,l9,b3⟩:=hpv;have b4:=a4.val;rw[i6]at b4;cases b4;subst i6;obtain⟨LL,g1⟩:∃n,n=L.length:=⟨_,rfl⟩;obtain⟨TL,e6⟩:∃n,n=T.length:=⟨_,rfl⟩;have c9:=Kh g1;have n8:=Kh e6;have c8:=Kh a4;have e9:=Kh b6;have l1:=Kh b5;have o1:=Kh b3;have f6:=Kh hbfs;have n9:=Kh htok;have r5:=Kh g2;rw[<-g1,<-e6]at c8⊢;rw[<-e6]at l1;have n3:LL<=4000:=by omega
    clear g1 e6 a4 b5 b3 l9 m3 hbfs htok b6 g2;obtain⟨w4,a2⟩:∃w4,w4=w3.alloc (.cells #[.slice sa n2 sc,.slice (some ⟨sb8,0,none⟩) LL sc8,.slice sN TL cN] 88):=⟨_,rfl⟩;obtain⟨R,hR⟩:∃R,R=w3.heap.size:=⟨_,rfl⟩;have H4:=Ga w3 (.cells #[.slice sa n2 sc,.slice (some ⟨sb8,0,none⟩) LL sc8,.slice sN TL cN] 88) none;have a0:=heap_alloc_new w3 (.cells #[.slice sa n2 sc,.slice (some ⟨sb8,0,none⟩) LL sc8,.slice sN TL cN] 88);rw[<-a2]at H4 a0;rw[<-hR]at a0;have g4:=Kh a2;have o4:=Kh hR;have r7:=Kh a0;have d4:=Kh H4;have H9:=Kh (zD hg3 H4);have g9:=Kh (zA f4.out H9.out (by simp));have d6:=Kh (zB a8.out H9.out (by simp));have h3:=Kh (zB h3.out H9.out (by simp));have d5:=Kh hg3;clear a2 hR H4 hg3;obtain⟨b0,b1,b2⟩:=zN a0;go_upto_region 8 with fail;rw[<-g4.out,<-o4.out]
    have p4:Hid (∀(W:World) (i:Nat),w3.grownBy W none->i<LL->Calls Try.prog 53 #[.agg #[.slice sa n2 sc,.slice (some ⟨sb8,0,none⟩) LL sc8,.slice sN TL cN],.int .i64 (i:Int)] W fun e w'=>∃sa sc,e=.returned (.slice sa n2 sc)/\w'.ownsRow W.heap.size 4 1 (.slice sa n2 sc) n2 (bls (mtsT (autD g.pats (k:Int)) n2 (L.getD i [])))/\W.grownBy w' none):=Kh (fun W i hW hi=>by
     by_cases hz:n2=0
     ·subst hz
      exact(rfinals_nil W sa sc _ _ i).mono fun e w' h=>⟨none,0,h.1,by rw[show bls (mtsT (autD g.pats (k:Int)) 0 (L.getD i []))=[] from rfl];exact World.ownsRow_nil _ _ _ _,h.2⟩
     ·have:=fP w2.heap.size W k _ _ _ (autD g.pats (k:Int)) L T sb8 sc8 i (zD d5.out hW).size (c8.out.grow hW) (l4.out.kept (zD d5.out hW) (by simp)) H8.out (by rw[<-c9.out];exact hi) (by
       have j4:i<L.length:=(by rw[<-c9.out];exact hi);obtain⟨u,hu,eu⟩:=f6.out.re _ (List.getElem_mem j4);rw[zG j4,<-eu]
       exact H8.out.walk u H8.out.in0 hu) (by rw[<-e8.out];omega) (by rw[<-e8.out];omega) e9.out
      rw[<-e8.out]at this
      exact this)
    clear b0 b1 b2;obtain⟨w5,d7⟩:∃w5,w5=w4.alloc (.cells #[.int .i64 (k:Int),.int .i64 0,.slice none 0 0,.slice sN TL cN] 42):=⟨_,rfl⟩;obtain⟨D,hD⟩:∃D,D=w4.heap.size:=⟨_,rfl⟩;have e2:=Ga w4 (.cells #[.int .i64 (k:Int),.int .i64 0,.slice none 0 0,.slice sN TL cN] 42) none;have e4:=heap_alloc_new w4 (.cells #[.int .i64 (k:Int),.int .i64 0,.slice none 0 0,.slice sN TL cN] 42);have i5:w5.heap.size=D+1:=by rw[d7,zL,hD]
    rw[<-d7]at e2 e4;rw[<-hD]at e4;have n7:=Kh d7;have l6:=Kh hD;have q9:=Kh i5;have p9:=Kh e4;have p2:=Kh e2;have i0:=Kh (zB a0 e2 (by simp));clear d7 hD e2 i5 e4;obtain⟨b0,b1,b2⟩:=zN a0;have c5:=Kh a0;clear a0;go_upto_region 11 with fail;rw[<-n7.out,<-l6.out];clear b0 b1 b2;obtain⟨b0,b1,b2⟩:=zN i0.out;have k8:Hid (∃(sf:Option Addr) (cf:Nat),w5.heap[D]?=some (.cells #[.int .i64 (k:Int),.int .i64 0,.slice sf 0 cf,.slice sN TL cN] 42 (0,0))/\w5.ownsRow (D+1) 4 1 (.slice sf 0 cf) 0 (bls ((L.take 0).map (finD g (autD g.pats (k:Int)))))):=Kh ⟨none,0,p9.out,World.ownsRow_nil _ _ _ _⟩;go_wp2;clear b0 b1 b2
    go_loopg [11,47] LL (fun gh v11 v47 wr=>∃(i:Nat) (sf:Option Addr) (cf:Nat),gh+i=LL/\v47=.int .i64 i/\w4.grownBy wr none/\wr.heap[D]?=some (.cells #[.int .i64 (k:Int),.int .i64 0,.slice sf i cf,.slice sN TL cN] 42 (0,0))/\wr.ownsRow (D+1) 4 1 (.slice sf i cf) i (bls ((L.take i).map (finD g (autD g.pats (k:Int))))))
    case atStart =>
     obtain⟨sf,cf,h1,h2⟩:=k8.out;exact⟨0,sf,cf,rfl,rfl,p2.out,h1,h2⟩
    case round =>
     clear k8;obtain⟨i,sf,cf,j5,rfl,hg,a7,h5⟩:=hrel;have g8:=Kh j5;have HG:=Kh hg;have p8:=Kh a7;have HO:=Kh h5;clear j5;by_cases hi:i<LL
     ·have m6:(i:Int)<LL:=by omega
      go_upto_region 14 with fail;have n4:D=w4.heap.size:=l6.out;have n1:=zK d6.out;have n0:=zK c5.out;have n5:=zK a7;refine rdia_reg14 (G:=P) (R:=R) (D:=D) (base:=D+1) (np:=n2) (m:=LL) (tl:=TL) (k:=k) (fs:=(L.take i).map (finD g (autD g.pats (k:Int)))) (ms:=mtsT (autD g.pats (k:Int)) n2 (L.getD i [])) (b:=finD g (autD g.pats (k:Int)) (L.getD i [])) (zB d6.out hg (by simp)) (zB c5.out hg (by simp)) a7 h5 ⟨by omega,by omega,by omega⟩ (by omega) (by omega) (fun W hW=>p4.out W i (zD d4.out (zD hg hW)) hi) (fun W sa' sc' hW hr=>?_) ?_
      ·have h8:=p5.out W sa' sc' _ (zD H9.out (zD hg hW)) hr (qG _ _ _)
       rw[e8.out]at h8⊢;exact h8
      ·intro z50 z51 z52 z53 z54 z55 z56 z57 z58 z59 sf' cf' wa wb wc j8 j7 j6 c4 H2
       have p3:Hid (w4.grownBy wc none):=Kh (by
        refine zA (zA (zA hg j8 (by simp)) j7 (fun j e=>?_)) j6 (fun j e=>?_)
        ·have:=(h5.lt j e).1;omega
        ·have e:D=j:=Oj e;omega)
       have i1:=Kh c4
       have o7:Hid (wc.ownsRow (D+1) 4 1 (.slice sf' (i+1) cf') (i+1) (bls ((L.take (i+1)).map (finD g (autD g.pats (k:Int)))))):=Kh (by
        rw[List.take_add_one,List.getElem?_eq_getElem (by rw[<-c9.out];exact hi),List.map_append];rw[zG (by rw[<-c9.out];exact hi)]at H2
        exact H2)
       clear n4 n1 n0 n5 j8 j7 j6 c4 H2 hg a7 h5;go_wp2;go_roundg (LL-(i+1))
       case measure=>have:=g8.out;omega
       case rel=>exact⟨i+1,sf',cf',by have:=g8.out;omega,by go_num,p3.out,i1.out,o7.out⟩
     ·have m6:¬(i:Int)<LL:=by omega
      have l8:LL=i:=by have:=g8.out;omega
      subst l8
      have p6:Hid (DfaT wr (.slice sf LL cf) (.slice sN TL cN) (diaA g k L)):=Kh (by
       have H5:w3.grownBy wr none:=zD d4.out hg;have q8:TL=T.length:=n8.out;have m9:LL=L.length:=c9.out
       have f7:(L.take LL).map (finD g (autD g.pats (k:Int)))=(diaA g k L).final:=by
        rw[diaL_fin,m9,List.take_length]
       refine⟨m5,by rw[<-f7];exact RowT.of_owns h5,((RowT.of_owns l1.out).kept H5 (by simp)).mono H5.size,?_⟩;have m4:(diaA g k L).next=T.map (fun r=>r.map fun x:Nat=>(x:Int)):=(tok_next n9.out).symm;rw[m4]
       exact wK.natsInts ((o1.out.kept H5 (by simp)).mono H5.size))
      have k6:Hid (VD (diaA g k L) L.length k):=Kh (qHK f6.out b8 b7 e9.out);obtain⟨m,hm⟩:∃m,m=minD (diaA g k L) k:=⟨_,rfl⟩
      have l2:Hid (Calls Try.prog 54 #[.agg #[.int .i64 (k:Int),.int .i64 0,.slice sf LL cf,.slice sN TL cN]] wr (qDT wr m)):=Kh (by
       rw[hm];exact diaA_min p6.out k6.out)
      obtain⟨N,hN⟩:∃N,N=minN (diaA g k L) k:=⟨_,rfl⟩;have a3:=eK k6.out;rw[<-hm,<-hN]at a3;have k3:m.letters=k:=a3.hk;have k1:m.start=0:=by rw[hm];rfl
      have k4:m.final.length=N:=a3.hn;have k2:m.next.length=N:=a3.nl;have HM:=Kh hm;have HN:=Kh hN;have o2:=Kh k3;have o0:=Kh k1;have o3:=Kh k4;have g5:=Kh k2;have r6:=Kh (zK a7);obtain⟨d0,d1,d2,d3⟩:=zF p8.out;have f9:=zB h3.out hg (by simp);have k9:=Kh (zK f9);have p7:=Kh f9;have g7:=Kh (zA g9.out hg (by simp));clear a3 hm hN k3 k1 k4 k2 hg a7 h5 f9;go_wp2_with fail;refine l2.out.mono ?_;rintro e x9 ⟨v9,rfl,j9,e0⟩;have l5:=Kh j9;obtain⟨o9,q5,sf9,cf9,sn9,cn9,rfl,q7,f8⟩:=j9;rw[o2.out,o0.out,o3.out,g5.out]at l5⊢;have H6:=Ga x9 (.cells #[.int .i64 (k:Int),.int .i64 0,.slice sf9 N cf9,.slice sn9 N cn9] 42) none;have H7:=heap_alloc_new x9 (.cells #[.int .i64 (k:Int),.int .i64 0,.slice sf9 N cf9,.slice sn9 N cn9] 42);obtain⟨x10,a1⟩:∃x10,x10=x9.alloc (.cells #[.int .i64 (k:Int),.int .i64 0,.slice sf9 N cf9,.slice sn9 N cn9] 42):=⟨_,rfl⟩;obtain⟨o10,a5⟩:∃o10,o10=x9.heap.size:=⟨_,rfl⟩;rw[<-a1]at H6 H7;rw[<-a5]at H7;have l3:=Kh (zA g7.out e0 (by simp));have h4:=Kh (zB (zB p7.out e0 (by simp)) H6 (by simp));have g3:=Kh a1;have g6:=Kh a5;have a6:=Kh H6;have i2:=Kh H7;have i9:Q≠o10:=(by have:=e0.size;have:=k9.out;omega);clear f8 e0 d0 d1 d2 d3 l2 H6 H7 a1 a5;have f0:=zE h4.out 0;have f1:=zE h4.out 1;have f2:=zE h4.out 2;have f3:=zE h4.out 3;have b6:=zK h4.out;go_upto_region 17 with fail;rw[<-g3.out,<-g6.out];obtain⟨q0,q1,q2,q3⟩:=zF h4.out;obtain⟨t0,t1,t2,t3⟩:=zF i2.out;by_cases h512:(512:Int)<N
      ·go_wp2
       obtain⟨H3,h6⟩:=wF h4.out (.int .i64 0) (.int .i64 0) (.slice none 0 0) (.slice none 0 0);obtain⟨wz,H1⟩:∃wz,wz=(((x10.setCell ⟨Q,0,none⟩ (.int .i64 0)).setCell ⟨Q,1,none⟩ (.int .i64 0)).setCell ⟨Q,2,none⟩ (.slice none 0 0)).setCell ⟨Q,3,none⟩ (.slice none 0 0):=⟨_,rfl⟩;rw[<-H1]at H3 h6⊢;clear H1;obtain⟨r0,r1,r2,r3⟩:=zF H3;clear q0 q1 q2 q3 f0 f1 f2 f3 t0 t1 t2 t3;refine bodyPost_ret (v:=.tuple #[.agg #[.int .i64 0,.int .i64 0,.slice none 0 0,.slice none 0 0],.int .i64 3]) (by simp[results,Try.results18,go_sem,r0,r1,r2,r3]) rfl ?_;exact⟨3,jV,⟨_,_,rfl,DfaT.zero _,zA (zA l3.out a6.out (by simp)) h6 (fun k e=>by have h7:Q=k:=Oj e;have:=c7.out;have:=e7.out;omega)⟩,.inr ⟨H0.out,k,rfl,b8,b7,.inr ⟨L,⟨f6.out,e9.out⟩,.inl ⟨by rw[<-HN.out];omega,rfl,rfl⟩⟩⟩⟩
      ·go_wp2
       obtain⟨H3,h6⟩:=wF h4.out (.int .i64 (k:Int)) (.int .i64 0) (.slice sf9 N cf9) (.slice sn9 N cn9);obtain⟨wz,H1⟩:∃wz,wz=(((x10.setCell ⟨Q,0,none⟩ (.int .i64 (k:Int))).setCell ⟨Q,1,none⟩ (.int .i64 0)).setCell ⟨Q,2,none⟩ (.slice sf9 N cf9)).setCell ⟨Q,3,none⟩ (.slice sn9 N cn9):=⟨_,rfl⟩;rw[<-H1]at H3 h6⊢;clear H1;obtain⟨r0,r1,r2,r3⟩:=zF H3;clear q0 q1 q2 q3 f0 f1 f2 f3 t0 t1 t2 t3;refine bodyPost_ret (v:=.tuple #[.agg #[.int .i64 (k:Int),.int .i64 0,.slice sf9 N cf9,.slice sn9 N cn9],.int .i64 0]) (by simp[results,Try.results18,go_sem,r0,r1,r2,r3]) rfl ?_;have m7:=(l5.out.grow a6.out).far h6 h4.out k9.out;obtain⟨fv9,nv9,a3,l7⟩:=m7.t;refine⟨0,m,⟨fv9,nv9,?_,l7,zA (zA l3.out a6.out (by simp)) h6 (fun y e=>by have h7:Q=y:=Oj e;have:=c7.out;have:=e7.out;omega)⟩,.inr ⟨H0.out,k,rfl,b8,b7,.inr ⟨L,⟨f6.out,e9.out⟩,.inr ⟨by rw[<-HN.out];omega,rfl,HM.out⟩⟩⟩⟩;rw[<-a3]
theorem co_reg10 {Q':Exit->Act->World->Prop}{v0 v1 v2 v4 v5 v6 v9 v10 v11 v12 v13 v14 v15 v16 v17 v18 v19 v20 v21 v22 v23 v24 v25 v26 v27 v28 v29 v30 v31 v32 v33 v34 v35 v36 v37 v38 v39 v40 v41 v42 v43 v44 v45 v46 v47 v48 v49 v50 v51 v52 v53 v54 v55 v56 v57 v58 v59 v60 v61 v62 v63 v64 v65 v66 v67 v68 v69 v70 v71 v72 v73 v74 v75 v76 v77 v78 v79 v80 v81 v82 v83 v84 v85 v86 v87 v88 v89 v90 v91 v92 v93 v94 v95 v96 v97 v98 v99 v100 v101 v102 v103 v104 v105 v106 v107 v108 v109 v110 v111 v112 v113 v114 v115 v116 v117 v118 v119 v120 v121 v122 v123 v124 v125 v126 v127 v128 v129 v130 v131 v132 v133 v134:Value}{dd:_}{w:World}{P tb B base m:Nat}{sc:Option Addr}{cc:Nat}{cs:List ChoV}{i:Int}{pv rv:Value}(hb:w.heap[P]?=some (.cells #[pv,.slice sc m cc,rv] 25 (0,0)))(ho:w.ownsRow base 45 3 (.slice sc m cc) m (sJ cs))(hT:xL B w tb)(hlt:tb<base/\P<base)(hne:P≠tb)(hbase:base<=w.heap.size)(hm:m<=1000)(hBP:B<=P)(hexit:∀(z48 z49 z50 z51 z52 z53 z54 z55 z56 z57 z58 z59 z60 z61 z62 z63 z64 z65 z66:Value) (sc':Option Addr) (cc':Nat) (y n:Int) (w0 w1 w':World),w.grownBy w0 (some tb)->w0.grownBy w1 (Value.slice sc m cc).ownBlock->w1.grownBy w' (some P)->0<=y->y<2+(m:Int)->0<=n->n<2+(m:Int)->w'.heap[P]?=some (.cells #[pv,.slice sc' (m+1) cc',rv] 25 (0,0))->w'.ownsRow base 45 3 (.slice sc' (m+1) cc') (m+1) (sJ (cs++[⟨i,y,n⟩]))->xL B w' tb->Q' .normal ⟨(v0::v1::v2::(Value.pointer (some ⟨tb,0,none⟩))::v4::v5::v6::(Value.pointer (some ⟨P,0,none⟩))::(Value.int .i64 i)::v9::v10::v11::v12::v13::v14::v15::v16::v17::v18::v19::v20::v21::v22::v23::v24::v25::v26::v27::v28::v29::v30::v31::v32::v33::v34::v35::v36::v37::v38::v39::v40::v41::v42::v43::v44::v45::v46::v47::z48::z49::z50::z51::z52::z53::z54::z55::z56::z57::z58::z59::z60::z61::z62::z63::z64::z65::z66::v67::v68::v69::v70::v71::v72::v73::v74::v75::v76::v77::v78::v79::v80::v81::v82::v83::v84::v85::v86::v87::v88::v89::v90::v91::v92::v93::v94::v95::v96::v97::v98::v99::v100::v101::v102::v103::v104::v105::v106::v107::v108::v109::v110::v111::v112::v113::v114::v115::v116::v117::v118::v119::v120::v121::v122::v123::v124::v125::v126::v127::v128::v129::v130::v131::v132::v133::v134::[]).toArray,dd⟩ w'):Code.wp Try.prog (reg Try.f4 10) Q' ⟨(v0::v1::v2::(Value.pointer (some ⟨tb,0,none⟩))::v4::v5::v6::(Value.pointer (some ⟨P,0,none⟩))::(Value.int .i64 i)::v9::v10::v11::v12::v13::v14::v15::v16::v17::v18::v19::v20::v21::v22::v23::v24::v25::v26::v27::v28::v29::v30::v31::v32::v33::v34::v35::v36::v37::v38::v39::v40::v41::v42::v43::v44::v45::v46::v47::v48::v49::v50::v51::v52::v53::v54::v55::v56::v57::v58::v59::v60::v61::v62::v63::v64::v65::v66::v67::v68::v69::v70::v71::v72::v73::v74::v75::v76::v77::v78::v79::v80::v81::v82::v83::v84::v85::v86::v87::v88::v89::v90::v91::v92::v93::v94::v95::v96::v97::v98::v99::v100::v101::v102::v103::v104::v105::v106::v107::v108::v109::v110::v111::v112::v113::v114::v115::v116::v117::v118::v119::v120::v121::v122::v123::v124::v125::v126::v127::v128::v129::v130::v131::v132::v133::v134::[]).toArray,dd⟩ w:=by
 conv=>arg 2;whnf
 obtain⟨w7,H0⟩:∃w7,w7=w.drew:=⟨_,rfl⟩;have h4:w.grownBy w7 none:=by rw[H0];exact zO w none
 have a5:=Kh H0;have HB:=Kh (zB hb h4 (by simp));have HO:=Kh (zP ho h4);have h1:Hid (w.grownBy w7 (some tb)):=Kh (xM h4);have HT:=Kh (hT.kept h4 (by simp));have H1:=Kh hne;have h7:=Kh hlt;have HE:=Kh hexit;have b0:=Kh hbase;have b1:=Kh hBP;have C:Hid (w7.cell? ⟨P,1,none⟩=some (.slice sc m cc)):=Kh ((zN HB.out).2.1);clear H0 h4 hb ho hT hexit hbase hne hlt;have e8:IntKind.i64.wrap (2+(m:Int))=2+(m:Int):=tW (by omega);refine wp_region_noPanic ?_;refine yY (G:=uI 19 (fun _=>True) (fun W=>W.cell? ⟨P,1,none⟩=some (.slice sc m cc))) (by kernel_rfl) ?_;rw[<-a5.out];refine uA 0 ⟨trivial,fun _=>C.out⟩ ?_;refine uA 1 ⟨trivial,fun _=>C.out⟩ ?_;refine uA 2 ⟨trivial,fun _=>C.out⟩ ?_;refine uA 3 ⟨trivial,fun _=>C.out⟩ ?_;refine uA 4 ⟨trivial,fun _=>C.out⟩ ?_;refine uA 5 ⟨trivial,fun _=>C.out⟩ ?_;refine uA 6 ⟨trivial,fun _=>C.out⟩ ?_;refine uA 7 ⟨trivial,fun _=>C.out⟩ ?_;refine uA 9 ⟨trivial,fun _=>C.out⟩ ?_;refine uA 10 ⟨trivial,fun _=>C.out⟩ ?_;refine uA 11 ⟨trivial,fun _=>C.out⟩ ?_;refine uA 12 ⟨trivial,fun _=>C.out⟩ ?_;refine uA 13 ⟨trivial,fun _=>C.out⟩ ?_;refine oneG (i:=8) (by kernel_rfl) rfl (fun K hK=>?_);go_simp
 go_at_call 15
 refine(wW B tb w7 (2+(m:Int)) (by omega) HT.out).mono ?_;rintro e w8 ⟨y,rfl,H3,H2,h6,h0⟩;have Hy:Hid (0<=y/\y<2+(m:Int)):=Kh ⟨H3,H2 (by omega)⟩;have HT:=Kh h6;have HB:=Kh (zB HB.out h0 (fun e=>H1.out (Oj e).symm));have HO:=Kh (HO.out.kept h0 (by rcases hv:(Value.slice sc m cc).ownBlock with _|j;exact .inl rfl;exact .inr (fun e=>by have e:j=tb:=Oj e;have:=(HO.out.lt j hv).1;have:=h7.out.1;omega)));have h1:=Kh (zD h1.out h0);have C:Hid (w8.cell? ⟨P,1,none⟩=some (.slice sc m cc)):=Kh ((zN HB.out).2.1);have a2:Hid (w7.heap.size<=w8.heap.size):=Kh h0.size;refine hK.out _ _ ⟨trivial,fun _=>C.out⟩ ?_;clear hK K h6 h0 H3 H2
 try simp only[Act.put,sPd,sPe,sPf,sPa,sPb,sPc]
 refine oneG (i:=14) (by kernel_rfl) rfl (fun K hK=>?_);go_simp
 go_at_call 15
 refine(wW B tb w8 (2+(m:Int)) (by omega) HT.out).mono ?_;rintro e w9 ⟨n,rfl,H8,H7,h6,h0⟩;have Hn:Hid (0<=n/\n<2+(m:Int)):=Kh ⟨H8,H7 (by omega)⟩;have HT:=Kh h6;have HB:=Kh (zB HB.out h0 (fun e=>H1.out (Oj e).symm));have HO:=Kh (HO.out.kept h0 (by rcases hv:(Value.slice sc m cc).ownBlock with _|j;exact .inl rfl;exact .inr (fun e=>by have e:j=tb:=Oj e;have:=(HO.out.lt j hv).1;have:=h7.out.1;omega)));have h1:=Kh (zD h1.out h0);have C:Hid (w9.cell? ⟨P,1,none⟩=some (.slice sc m cc)):=Kh ((zN HB.out).2.1);have a1:Hid (w8.heap.size<=w9.heap.size):=Kh h0.size;refine hK.out _ _ ⟨trivial,fun _=>C.out⟩ ?_;clear hK K h6 h0 H8 H7
 try simp only[Act.put,sPd,sPe,sPf,sPa,sPb,sPc]
 refine uA 15 ⟨trivial,fun _=>C.out⟩ ?_;have h2:=Ga w9 (.cells #[.int .i64 i,.int .i64 y,.int .i64 n] 45) none;have h5:=heap_alloc_new w9 (.cells #[.int .i64 i,.int .i64 y,.int .i64 n] 45);obtain⟨X,hX⟩:∃X,X=w9.heap.size:=⟨_,rfl⟩;obtain⟨wl,h9⟩:∃wl,wl=w9.alloc (.cells #[.int .i64 i,.int .i64 y,.int .i64 n] 45):=⟨_,rfl⟩;rw[<-h9]at h2 h5;rw[<-hX]at h5;have a4:=Kh h9;have a3:=Kh hX;have HB:=Kh (zB HB.out h2 (by simp));have HO:=Kh (zP HO.out h2);have h1:=Kh (zD h1.out (xM h2));have HT:=Kh (HT.out.kept h2 (by simp));have b2:=Kh h5;have C:Hid (wl.cell? ⟨P,1,none⟩=some (.slice sc m cc)):=Kh ((zN HB.out).2.1);clear h2 h5 hX h9;refine oneG (i:=16) (by kernel_rfl) rfl (fun K hK=>?_);go_simp;rw[<-a4.out,<-a3.out];refine hK.out _ _ ⟨trivial,fun _=>C.out⟩ ?_;clear hK K
 try simp only[Act.put,sPd,sPe,sPf,sPa,sPb,sPc]
 have hz:=Nat.le_trans b0.out h1.out.size;refine oneG (i:=17) (by kernel_rfl) rfl (fun K hK=>?_);refine tY rfl (.tmp 49) (.tmp 64) 23 rfl qFJ base (.slice sc m cc) m _ rfl HO.out [.int .i64 i,.int .i64 y,.int .i64 n] X rfl (0,0) rfl b2.out ?z1 ?z2 ?z3 hz ?_
 case z1=>intro v hv;simp only[List.mem_cons,List.not_mem_nil,or_false]at hv;rcases hv with rfl|rfl|rfl<;>rfl
 case z2=>unfold maxLen;omega
 case z3=>omega
 intro sc' cc' wp h3 h8 a0;have a9:=Kh h8;have H9:=Kh h3;have HB:=Kh (zB HB.out h8 (fun e=>by have:=(HO.out.lt P e).1;have:=h7.out;omega));have HT:=Kh (HT.out.kept h8 (fun k e=>by have:=(HO.out.lt k e).1;have:=h7.out;have:=HT.out.ge;omega));have C:Hid (wp.cell? ⟨P,1,none⟩=some (.slice sc m cc)):=Kh ((zN HB.out).2.1);refine hK.out _ _ ⟨trivial,fun _=>C.out⟩ ?_;clear hK K h3 h8 a0
 try simp only[Act.put,sPd,sPe,sPf,sPa,sPb,sPc]
 refine uA 18 ⟨trivial,fun _=>C.out⟩ ?_;have c1:=C.out;have f1:=zE HB.out 1;have h5:=zK HB.out;have H5:=heap_setCell_same wp P 1 _ _ (.slice sc' (m+1) cc') HB.out;have H6:=H9.out.kept (zC wp ⟨P,1,none⟩ (.slice sc' (m+1) cc')) (.inr (fun e=>by have:=(H9.out.lt P e).1;have:=h7.out;omega));have H4:=HT.out.kept (zC wp ⟨P,1,none⟩ (.slice sc' (m+1) cc')) (fun k e=>by have e:P=k:=Oj e;have:=H1.out;have:=b1.out;omega);have a7:=Kh H5;have a8:=Kh H6;have a6:=Kh H4;clear H5 H6 H4;refine oneG (i:=19) (by kernel_rfl) rfl (fun K hK=>?_);go_simp;refine hK.out _ _ ⟨trivial,fun h=>by cases h⟩ ?_;clear hK K
 try simp only[Act.put,sPd,sPe,sPf,sPa,sPb,sPc]
 refine rP (by kernel_rfl) ?_ _;exact HE.out _ _ _ _ _ _ _ _ _ _ _ _ _ _ _ _ _ _ _ sc' cc' y n wl wp _ h1.out a9.out (zC wp ⟨P,1,none⟩ (.slice sc' (m+1) cc')) Hy.out.1 Hy.out.2 Hn.out.1 Hn.out.2 a7.out (by rw[dE];exact a8.out) a6.out
end Go.Proofs.Ytjfdomfendbhfaa
namespace Go.Proofs.Ytjfdomfendbhfaa
open Go.RowKit
def exts (bs:List (List (List Int)))(ws:List (List Int)):List (List (List Int)):=bs.flatMap fun b=>ws.map fun u=>b++[u]
def chB (ws:List (List Int)):Nat->List (List (List Int))
 | 0=>ws.map oneB
 | i+1=>exts (chB ws i) (ws.drop 1)
def chL (ws:List (List Int)):Nat->List (List (List Int))
 | 0=>ws.map oneB
 | i+1=>chL ws i++exts (chB ws i) ws
theorem qHQ (ws:List (List Int))(i:Nat):∀d,chL ws i <+: chL ws (i+d)
 | 0=>List.prefix_refl _
 | d+1=>(qHQ ws i d).trans (List.prefix_append _ _)
theorem eX {bs:List (List (List Int))}{ws:List (List Int)}{p:Nat}(hp:p<bs.length):exts (bs.take (p+1)) ws=exts (bs.take p) ws++ws.map fun u=>bs[p]++[u]:=by
 rw[exts,List.take_succ_eq_append_getElem hp,List.flatMap_append];simp[exts]
theorem exts_pre (bs:List (List (List Int)))(ws:List (List Int))(p:Nat):exts (bs.take p) ws <+: exts bs ws:=by
 conv=>rhs;rw[<-List.take_append_drop p bs]
 rw[exts,exts,List.flatMap_append];exact List.prefix_append _ _
theorem exts_part {bs:List (List (List Int))}{ws:List (List Int)}{p:Nat}(hp:p<bs.length)(q:Nat):exts (bs.take p) ws++(ws.take q).map (fun u=>bs[p]++[u]) <+: exts bs ws:=by
 refine List.IsPrefix.trans ?_ (exts_pre bs ws (p+1));rw[eX hp];exact List.prefix_append_right_inj _ |>.2 ((List.take_prefix q ws).map _)
theorem iI {ws:List (List Int)}:∀(i:Nat) {b:List (List Int)},b∈chB ws i->b.length=i+1
 | 0,b,h=>by
  obtain⟨u,_,rfl⟩:=List.mem_map.1 h;rfl
 | i+1,b,h=>by
  obtain⟨c,hc,hb⟩:=List.mem_flatMap.1 h
  obtain⟨u,_,rfl⟩:=List.mem_map.1 hb
  rw[List.length_append,iI i hc];rfl
theorem tO (bs:List (List (List Int)))(ws:List (List Int)):(exts bs ws).length=bs.length*ws.length:=by
 induction bs with
 | nil=>simp[exts]
 | cons b bs ih =>
  have:exts (b::bs) ws=(ws.map fun u=>b++[u])++exts bs ws:=rfl;rw[this,List.length_append,ih,List.length_map,List.length_cons,Nat.succ_mul];omega
theorem qHS {ws:List (List Int)}(h:2<=ws.length):∀i,1<=(chB ws i).length
 | 0=>by simp[chB];omega
 | i+1=>by
  rw[chB,tO,List.length_drop]
  exact Nat.mul_pos (qHS h i) (by omega)
theorem rowT_some {B e:Nat}{w:World}{sa:Option Addr}{n sc:Nat}{xs:List Value}(h:RowT B e w (.slice sa n sc) xs)(hp:1<=n):∃b off,sa=some ⟨b,off,none⟩/\n<=sc/\sc<=maxLen:=by
 rcases h with ⟨hn,hn2⟩|⟨b,off,cap,cur,m,hv,hb,hc1,hc2,hblk,hcell⟩
 ·simp only[Value.slice.injEq]at hn;omega
 ·simp only[Value.slice.injEq]at hv
  obtain⟨rfl,rfl,rfl⟩:=hv;exact⟨b,off,rfl,hc1,hc2⟩
structure LUp (e base:Nat)(w:World)(v:Value)(n:Nat)(svs:List Value)(ps:List (List (List Int))):Prop where
 own:w.ownsRow base e 1 v n svs
 rows:wK w.heap.size 9 strs w svs ps
 ne:e≠9
theorem LUp.len {e base n:Nat}{w:World}{v:Value}{svs:List Value}{ps:List (List (List Int))}(h:LUp e base w v n svs ps):n=ps.length:=by
 have:=h.own.1;have:=h.rows.1;omega
theorem LUp.nil {e:Nat}(he:e≠9)(base:Nat)(w:World):LUp e base w (.slice none 0 0) 0 [] []:=⟨World.ownsRow_nil _ _ _ _,wK.nil,he⟩
theorem LUp.kept {e base n:Nat}{w w':World}{v:Value}{svs:List Value}{ps:List (List (List Int))}{row:Option Nat}(h:LUp e base w v n svs ps)(hg:w.grownBy w' row)(hr:∀k,row=some k->w.heap.size<=k\/(zX w 9 k/\zX w e k)):LUp e base w' v n svs ps:=by
 refine⟨h.own.kept hg ?_,(h.rows.kept hg (fun k e=>(hr k e).imp id (·.1))).mono hg.size,h.ne⟩;rcases hv:v.ownBlock with _|k
 ·exact .inl rfl
 ·refine .inr fun e1=>?_
  rcases hr k e1.symm with h1|⟨_,cur,e',m,hb,hn⟩
  ·have:=(h.own.lt k hv).2;omega
  ·exact zQ h.own hb (fun e2=>hn e2.symm) hv
theorem LUp.push {e base n m b2:Nat}{w w1 w':World}{v v' sv:Value}{svs:List Value}{ps:List (List (List Int))}{us:List (List Int)}(h:LUp e base w v n svs ps)(hg1:w.grownBy w1 none)(ho1:w1.ownsRow b2 9 1 sv m (strs us))(hown:w'.ownsRow base e 1 v' (n+1) (svs++[sv]))(hg:w1.grownBy w' v.ownBlock):LUp e base w' v' (n+1) (svs++[sv]) (ps++[us])/\w.grownBy w' v.ownBlock:=by
 have h1:=h.kept hg1 (by simp);have h0:=yF h1.own h.ne;refine⟨⟨hown,?_,h.ne⟩,zD (xM hg1) hg⟩;have h2:=((h1.rows.snoc (RowT.of_owns ho1)).kept hg (fun k e=>.inr (h0 k e))).mono hg.size;exact h2
theorem LUp.ofPats {base n:Nat}{w:World}{v:Value}{svs:List Value}{ps:List (List (List Int))}(h:PatsUp base w v n svs ps):LUp 28 base w v n svs ps:=⟨h.own,h.rows,by decide⟩
theorem qCS:ElemOk Try.prog 147 26 (.slice none 0 0) 24:=⟨Try.underlying147,by kernel_rfl,rfl⟩
structure LRead (B:Nat)(w:World)(v:Value)(svs:List Value)(bs:List (List (List Int))):Prop where
 row:RowT B 26 w v svs
 rows:wK B 9 strs w svs bs
theorem LRead.kept {B:Nat}{w w':World}{v:Value}{svs:List Value}{bs:List (List (List Int))}{row:Option Nat}(h:LRead B w v svs bs)(hg:w.grownBy w' row)(hr:∀k,row=some k->B<=k\/(zX w 26 k/\zX w 9 k)):LRead B w' v svs bs :=
 ⟨h.row.kept hg (fun k e=>(hr k e).imp id (·.1)),h.rows.kept hg (fun k e=>(hr k e).imp id (·.2))⟩
theorem LRead.at {B b off sc n:Nat}{w:World}{svs:List Value}{bs:List (List (List Int))}(h:LRead B w (.slice (some ⟨b,off,none⟩) n sc) svs bs)(hn:n=bs.length){p:Nat}(hp:p<n):∃(a:Option Addr) (c:Nat),w.cell? ⟨b,off+p,none⟩=some (.slice a (bs[p]'(by omega)).length c)/\RowT B 9 w (.slice a (bs[p]'(by omega)).length c) (strs (bs[p]'(by omega))):=by
 have hl:=h.rows.1;have h2:=h.rows.2 p (by omega) (by omega);have h0:=h.row.row;rcases h0 with ⟨a0,c0,e,hx⟩|⟨b',off',cap',hv,_,_,_,hra⟩
 ·simp only[Value.slice.injEq]at e;omega
 ·simp only[Value.slice.injEq,Option.some.injEq,Addr.mk.injEq,and_true]at hv
  obtain⟨⟨rfl,rfl⟩,_⟩:=hv;have hc:=hra.2 p (by omega);obtain⟨a,c,e⟩:=h2.row.shape;rw[xX]at e;refine⟨a,c,?_,?_⟩
  ·rw[hc,e]
  ·rw[<-e];exact h2
theorem LRead.of {base n:Nat}{w:World}{v:Value}{svs:List Value}{bs:List (List (List Int))}(h:LUp 26 base w v n svs bs):LRead w.heap.size w v svs bs:=⟨RowT.of_owns h.own,h.rows⟩
def cnt (letters:Nat):Nat->Int×Int
 | 0=>(0,1)
 | r+1=>(min ((cnt letters r).1+(cnt letters r).2) 900,min ((cnt letters r).2*letters) 900)
def chn (ne:Int):Nat->Int×Int
 | 0=>(ne+1,(ne+1)*(ne+1))
 | r+1=>(min ((chn ne r).1+(chn ne r).2) 900,min (chn ne r).2 900*ne)
theorem qHP (ne:Int)(h:0<=ne)(h9:ne<=900):∀r,0<=(chn ne r).1/\(chn ne r).1<=901/\0<=(chn ne r).2/\(chn ne r).2<=811801
 | 0=>by
  have h2:(ne+1)*(ne+1)<=901*901:=Int.mul_le_mul (by omega) (by omega) (by omega) (by omega)
  have h3:0<=(ne+1)*(ne+1):=Int.mul_nonneg (by omega) (by omega)
  simp only[chn];omega
 | r+1=>by
  have hb:=qHP ne h h9 r
  have h2:min (chn ne r).2 900*ne<=900*900:=Int.mul_le_mul (by omega) h9 h (by omega)
  have h3:0<=min (chn ne r).2 900*ne:=Int.mul_nonneg (by omega) h
  simp only[chn];omega
def qGM (kind:Int)(letters:Nat)(k m:Int):Int :=
 let ne:=(cnt letters (k+1).toNat).1-1
 let sh:=(cnt letters k.toNat).1
 if kind=1 then ne+1 else if kind=2\/kind=3 then sh+ne else if kind=4 then sh+2*ne else if kind=5 then sh+3*ne else if kind=6 then ne else (chn ne (m+1).toNat).1
def oS (kind letters k m:Int):Bool :=
 decide (1<=kind/\kind<=7/\1<=letters/\letters<=6/\(if kind=1 then 0 else 1)<=k/\k<=8/\(if kind=7 then 0<=m/\m<=4 else m=0))
end Go.Proofs.Ytjfdomfendbhfaa
