/- Part 15 of the proof. -/
import Derived.Test.YtjfdomfendbhfaaQg14
import Derived.BigQuiet
import Derived.BigRegion
set_option linter.unusedVariables false
set_option linter.unusedSimpArgs false
set_option maxRecDepth 100000
set_option maxHeartbeats 16000000
namespace Go.Proofs.Ytjfdomfendbhfaa
open Go.Maps Go.RowKit
theorem psame_any (w:World)(g1 g2 n:Nat)(xs ys:List Bool)(hx:xs.length=n)(hy:ys.length=n)(hn:n<=4096)(h1:Arr w g1 4 (bls xs))(h2:Arr w g2 4 (bls ys)):
  Calls Try.prog 101 #[.slice (some ⟨g1,0,none⟩) n n,.slice (some ⟨g2,0,none⟩) n n] w fun e w'=>e=.returned (.bool (xs == ys))/\w.grownBy w' none:=by
 have H1:=Kh h1;have H2:=Kh h2;have HX:=Kh hx;have HY:=Kh hy;clear h1 h2 hx hy;go_enter Try.func101,Try.ntmps101;go_wp2
 go_loopg [5,8] n (fun gh a5 i wr=>∃ k:Nat,gh+k=n/\i=.int .i64 k/\xs.take k=ys.take k/\w.grownBy wr none)
 case atStart=>exact⟨0,rfl,rfl,rfl,zL _ _⟩
 case round =>
  obtain⟨k,h7,rfl,h6,hg⟩:=hrel;have h3:=Kh h7;have h8:=Kh h6;have HG:=Kh hg;clear h7 h6;by_cases hk:k<n
  ·have H3:(k:Int)<n:=by omega
   have c1:=(H1.out.kept hg (by simp)).bool k (by rw[HX.out];exact hk);have c2:=(H2.out.kept hg (by simp)).bool k (by rw[HY.out];exact hk);have ex:xs.take (k+1)=xs.take k++[xs.getD k false]:=zR (by rw[HX.out];exact hk);have ey:ys.take (k+1)=ys.take k++[ys.getD k false]:=zR (by rw[HY.out];exact hk);obtain⟨x,h5⟩:∃ x,x=xs.getD k false:=⟨_,rfl⟩;obtain⟨y,h4⟩:∃ y,y=ys.getD k false:=⟨_,rfl⟩;rw[<- h5]at c1 ex;rw[<- h4]at c2 ey;have EX:=Kh ex;have EY:=Kh ey;clear h5 h4 ex ey hg;by_cases hxy:x=y
   ·have e0:(x == y)=true:=by simp[hxy]
    have h0:=Kh hxy;clear hxy;go_wp2
    go_quiet (fail)
    go_wp2;go_roundg (n - (k+1))
    case rel=>exact⟨k+1,by have:=h3.out;omega,by go_num,by rw[EX.out,EY.out,h8.out,h0.out],zA HG.out (by first|exact zO _ none|exact zN _ _ none) (by simp)⟩
    case measure=>have:=h3.out;omega
   ·have e0:(x == y)=false:=by simp[hxy]
    have h0:=Kh hxy;clear hxy;go_wp2
    go_quiet (fail)
    go_wp2;go_ret;refine⟨yB ?_,zA HG.out (by first|exact zO _ none|exact zN _ _ none) (by simp)⟩
    symm
    rw[beq_eq_false_iff_ne];intro e;have h9:=EX.out;rw[e,EY.out]at h9;have:=List.append_inj_right' h9 rfl;exact h0.out (by simpa using this.symm)
  ·have H3:¬ (k:Int)<n:=by omega
   have H0:Hid (k=n):=Kh (by have:=h3.out;omega);clear hg;go_wp2;go_ret;refine⟨yB ?_,HG.out⟩;have h9:=h8.out;rw[List.take_of_length_le (by rw[HX.out,H0.out];exact Nat.le_refl _),List.take_of_length_le (by rw[HY.out,H0.out];exact Nat.le_refl _)]at h9;simp[h9]
theorem pstart_any (w:World)(m:Nat)(h0:0<m)(hm:m<=4096):
  Calls Try.prog 100 #[.int .i64 (m:Int)] w fun e w'=>e=.returned (.slice (some ⟨w.heap.size,0,none⟩) m m)/\Arr w' w.heap.size 4 (bls (oS m))/\w.grownBy w' none:=by
 go_enter Try.func100,Try.ntmps100;obtain⟨G,hG⟩:∃ G,G=w.heap.size:=⟨_,rfl⟩;have h8:=Kh hG;rw[<- hG];go_wp2_with (first|(at_make;refine lO rfl _ _ _ rfl xW rfl .i64 .i64 _ _ m rfl rfl rfl rfl ?b1 ?b2 ?_;(case b1=>omega);(case b2=>(unfold maxLen;omega));intro ws h1 h6 h4;rw[<- hG]at h1 h4 ⊢;(have h3:Arr ws G 4 (bls (List.replicate m false)):=by rw[oM];exact h1);(have c0:=h3.bool 0 (by simpa using h0));(have f0:=h3.frozen 0);(have h2:=h3.bool_set 0 (by simpa using h0) true);(have h5:=Kh h2);(have h7:=Kh h6);clear h2 h6 h3 h1 hG)|fail);go_ret;exact⟨rfl,h5.out,zA h7.out (zC ws ⟨G,0,none⟩ _) (fun k e=>by have e:G=k:=Oj e;have:=h8.out;omega)⟩
structure RCtx (W:World)(bs:List ByteArray)(kb off kc pb pc mb m:Nat):Prop where
 blk:uV W kb off (txtV bs)
 cap:bs.length<=kc/\kc<=maxLen
 pos:PosAt W pb (xX (bs.map zI))
 pcap:m<=pc/\pc<=maxLen
 map:MapK 152 qFG posV W mb m m (numP (xX (bs.map zI)))
 len:(xX (bs.map zI)).length=m
 big:m<=4096
theorem RCtx.kept {W W':World}{bs:List ByteArray}{kb off kc pb pc mb m:Nat}{row:Option Nat}(h:RCtx W bs kb off kc pb pc mb m)(hg:W.grownBy W' row)(h1:row≠some kb)(h2:row≠some pb)(h3:row≠some mb):RCtx W' bs kb off kc pb pc mb m :=
 ⟨h.blk.kept hg h1,h.cap,h.pos.kept hg h2,h.pcap,h.map.kept hg h3,h.len,h.big⟩
theorem RCtx.grow {W W':World}{bs:List ByteArray}{kb off kc pb pc mb m:Nat}(h:RCtx W bs kb off kc pb pc mb m)(hg:W.grownBy W' none):RCtx W' bs kb off kc pb pc mb m:=h.kept hg (by simp) (by simp) (by simp)
theorem RCtx.at {W:World}{bs:List ByteArray}{kb off kc pb pc mb m:Nat}(h:RCtx W bs kb off kc pb pc mb m){p:Nat}(hp:p<m):∃ bi bk,bi<bs.length/\bk<=(bs.getD bi ⟨#[]⟩).size/\p=offP (bs.map zI) bi+bk/\atP (bs.map zI) p=(bi,bk)/\lenP (bs.map zI) bi=(bs.getD bi ⟨#[]⟩).size/\W.cell? ⟨pb,p * 2,none⟩=some (.int .i64 (bi:Int))/\W.cell? ⟨pb,p * 2+1,none⟩=some (.int .i64 (bk:Int))/\W.cell? ⟨kb,off+bi,none⟩=some (.string (bs.getD bi ⟨#[]⟩)):=by
 obtain⟨bi,bk,h1,h2,h3⟩:=posOf_cover (bs:=bs.map zI) (p:=p) (by rw[h.len];exact hp);have hb:bi<bs.length:=by simpa using h1
 have hl:lenP (bs.map zI) bi=(bs.getD bi ⟨#[]⟩).size:=by
  unfold lenP;rw[zG h1,zG hb];simp[yQ]
 have e:=mB h1 h2;rw[<- h3]at e;have c0:=h.pos.x0 p (by rw[h.len];exact hp);have c1:=h.pos.x1 p (by rw[h.len];exact hp);have e':(xX (bs.map zI)).getD p (0,0)=(bi,bk):=e;rw[e']at c0 c1;exact⟨bi,bk,hb,by rw[<- hl];exact h2,h3,e,hl,c0,c1,vU h.blk bi hb⟩
theorem RCtx.num {W:World}{bs:List ByteArray}{kb off kc pb pc mb m:Nat}(h:RCtx W bs kb off kc pb pc mb m){bi bk:Nat}(h1:bi<bs.length)(h2:bk<=(bs.getD bi ⟨#[]⟩).size):(Instr.lookup 150 (.map (some mb)) (posV (bi,bk)) false).run Try.prog W=.ok (.int .i64 ((offP (bs.map zI) bi+bk:Nat):Int)) W/\offP (bs.map zI) bi+bk<m:=by
 have hb:bi<(bs.map zI).length:=by simpa using h1
 have hl:lenP (bs.map zI) bi=(bs.getD bi ⟨#[]⟩).size:=by
  unfold lenP;rw[zG hb,zG h1];simp[yQ]
 have h0:=rE hb (show bk<=lenP (bs.map zI) bi by omega);rw[h.len]at h0;have h3:=h.big;have h4:bi<=offP (bs.map zI) bi:=by unfold offP;omega
 have:=h.map.look1 qFT (x:=(bi,bk)) ⟨by show bi<_;omega,by show bk<_;omega⟩;rw[numP_get hb (by omega)]at this;exact⟨this,h0⟩
theorem spread_any (W:World)(bs:List ByteArray)(kb off kc pb pc mb m g:Nat)(S:List Bool)(h:RCtx W bs kb off kc pb pc mb m)(hS:S.length=m)(ha:Arr W g 4 (bls S))(h1:g≠kb)(h2:g≠pb)(h3:g≠mb):
  Calls Try.prog 99 #[.agg #[.slice (some ⟨kb,off,none⟩) bs.length kc],.slice (some ⟨pb,0,none⟩) m pc,.map (some mb),.slice (some ⟨g,0,none⟩) m m] W fun e w'=>e=.returned (.slice (some ⟨g,0,none⟩) m m)/\Arr w' g 4 (bls (spr (bs.map zI) S))/\W.grownBy w' (some g):=by
 have a7:=h.cap;have H3:=h.pcap;have c7:=h.big;unfold maxLen at a7 H3;have H:=Kh h;have HS:=Kh hS;have d7:=ha.lt;obtain⟨w1,a3⟩:∃ w1,w1=W.alloc (.cells #[.slice (some ⟨kb,off,none⟩) bs.length kc] 28):=⟨_,rfl⟩;have H8:=Ga W (.cells #[.slice (some ⟨kb,off,none⟩) bs.length kc] 28) none;have a0:=heap_alloc_new W (.cells #[.slice (some ⟨kb,off,none⟩) bs.length kc] 28);rw[<- a3]at H8 a0;obtain⟨P,hP⟩:∃ P,P=W.heap.size:=⟨_,rfl⟩;rw[<- hP]at a0;have b7:P≠g:=by omega
 have c1:=Kh (ha.kept H8 (by simp));have b0:=Kh H8;have b1:=Kh a0;have c9:=Kh a3;have HP:=Kh hP;clear h hS ha H8 a0 a3 hP;go_enter Try.func99,Try.ntmps99;go_upto_region 1 with fail;rw[<- c9.out,<- HP.out];go_wp2
 go_loopg [9,10,11,14] m (fun gh a9 a10 a11 i wr=>∃ k:Nat,gh+k=m/\i=.int .i64 k/\Arr wr g 4 (bls (pJ (bs.map zI) S k))/\w1.grownBy wr (some g))
 case atStart=>exact⟨0,rfl,rfl,c1.out,zL _ _⟩
 case round =>
  clear c1;obtain⟨k,b3,rfl,h5,H0⟩:=hrel;have h6:=Kh b3;clear b3;by_cases hk:k<m
  ·have c3:(k:Int)<m:=by omega
   have hl:=sU (bs.map zI) S k;have c0:=h5.bool k (by rw[hl,HS.out];exact hk);have H6:=(H.out.grow b0.out).kept H0 (by simpa using h1) (by simpa using h2) (by simpa using h3);obtain⟨bi,bk,b5,c6,hp,b6,H7,cx0,cx1,cu⟩:=H6.at hk;obtain⟨u,hu⟩:∃ u,u=bs.getD bi ⟨#[]⟩:=⟨_,rfl⟩;rw[<- hu]at c6 H7 cu;obtain⟨c,hc⟩:∃ c,c=(pJ (bs.map zI) S k).getD k false:=⟨_,rfl⟩;rw[<- hc]at c0;have cP:=zH (zB b1.out H0 (fun e=>b7 (Oj e).symm)) 0 (by simp);simp only[List.getElem_toArray,List.getElem_cons_zero]at cP;have c8:(bi:Int)<bs.length:=by omega
   have d5:u.size<=4096:=by
    have h9:=rE (bs:=bs.map zI) (i:=bi) (k:=lenP (bs.map zI) bi) (by simpa using b5) (Nat.le_refl _);rw[H.out.len,H7]at h9;omega
   have d2:=Kh hp;have b9:=Kh b6;have a8:=Kh H7;have HU:=Kh hu;have HC:=Kh hc;have HL:=Kh hl;have HA:=Kh h5;have H2:=Kh H0;clear hp b6 H7 hu hc hl h5 H0 H6;go_upto_region 5 with fail;have H1:=Ga wr (.cells #[.int .i64 (bi:Int),.int .i64 (bk:Int)] 152) none;have H9:=heap_alloc_new wr (.cells #[.int .i64 (bi:Int),.int .i64 (bk:Int)] 152);obtain⟨w2,a2⟩:∃ w2,w2=wr.alloc (.cells #[.int .i64 (bi:Int),.int .i64 (bk:Int)] 152):=⟨_,rfl⟩;obtain⟨A,hA⟩:∃ A,A=wr.heap.size:=⟨_,rfl⟩;rw[<- a2,<- hA];rw[<- a2]at H1 H9;rw[<- hA]at H9;obtain⟨d0,d1⟩:=vL H9;have c4:=HA.out.lt;have h4:=((H.out.grow b0.out).kept H2.out (by simpa using h1) (by simpa using h2) (by simpa using h3)).grow H1;have cu2:=vU h4.blk bi b5;rw[<- HU.out]at cu2;have cP2:=zH (zB (zB b1.out H2.out (fun e=>b7 (Oj e).symm)) H1 (by simp)) 0 (by simp);simp only[List.getElem_toArray,List.getElem_cons_zero]at cP2;have h8:=Kh (HA.out.kept H1 (by simp));have b8:=Kh h4;have d3:=Kh H1;have a1:Hid (∀ w',w2.grownBy w' none->w1.grownBy w' (some g)):=Kh (fun w' hg=>zD (zA H2.out d3.out (by simp)) (wE hg));clear a2 hA H1 H9 h4 c0 cx0 cx1 cu cP b1 HA H2
   have h0:Hid ((c=false\/bk≠u.size\/¬ bi+1<bs.length)->pJ (bs.map zI) S (k+1)=pJ (bs.map zI) S k):=Kh (fun hno=>by
    show (if bitP _ _ && enP _ _ then _ else _)=_;rw[if_neg];intro hh;rw[Bool.and_eq_true,b9.out,enP,Bool.and_eq_true,decide_eq_true_eq,decide_eq_true_eq,a8.out,List.length_map]at hh;obtain⟨ha,hb,c5⟩:=hh;have ha:c=true:=by rw[HC.out];exact ha
    rcases hno with h|h|h
    ·rw[h]at ha;cases ha
    ·exact h hb
    ·exact h c5)
   cases c with
   | false =>
    have h7:=Kh (h0.out (.inl rfl));clear h0
    go_quiet (fail)
    go_wp2;go_roundg (m - (k+1))
    case measure=>have:=h6.out;omega
    case rel=>exact⟨k+1,by have:=h6.out;omega,by go_num,by rw[h7.out];exact h8.out.kept (zN w2 _ none) (by simp),a1.out _ (zN w2 _ none)⟩
   | true =>
    by_cases e1:bk=u.size
    ·have e1':((bk:Int) == (u.size:Int))=true:=by simp[e1]
     by_cases e2:bi+1<bs.length
     ·have e2':decide ((bi:Int)+1<(bs.length:Int))=true:=by rw[decide_eq_true_eq];omega
      have H4:offP (bs.map zI) (bi+1)+0=k+1:=by
       rw[kQ (bs:=bs.map zI) (by simpa using e2),a8.out,d2.out,e1]
      have H5:=b8.out.num (bi:=bi+1) (bk:=0) e2 (Nat.zero_le _);have a6:k+1<m:=by have:=H5.2;omega
      have d6:∀ q,(Instr.lookup 150 (.map (some mb)) (.agg #[.int .i64 ((bi:Int)+1),.int .i64 0]) false).run Try.prog (w2.drewN q)=.ok (.int .i64 ((k:Int)+1)) (w2.drewN q):=fun q=>by
       have:=((b8.out.grow (zN w2 q none)).num (bi:=bi+1) (bk:=0) e2 (Nat.zero_le _)).1;rw[H4]at this;simpa [posV] using this
      have a5:=HL.out;have ca:=h8.out.bool (k+1) (by rw[a5,HS.out];exact a6);have fa:=h8.out.frozen (k+1);have a4:=h8.out.bool_set (k+1) (by rw[a5,HS.out];exact a6) true;obtain⟨old,hold⟩:∃ old,old=(pJ (bs.map zI) S k).getD (k+1) false:=⟨_,rfl⟩;rw[<- hold]at ca
      have h7:Hid (pJ (bs.map zI) S (k+1)=(pJ (bs.map zI) S k).set (k+1) true):=Kh (by
       show (if bitP _ _ && enP _ _ then _ else _)=_;rw[if_pos];rw[Bool.and_eq_true,b9.out,enP,Bool.and_eq_true,decide_eq_true_eq,decide_eq_true_eq,a8.out,List.length_map]
       exact⟨HC.out.symm,e1,e2⟩)
      have d4:=Kh e1;have c2:(k:Int)+1<m:=(by omega);clear h0 H5 H4 a5 a4 hold e1
      go_quiet (fail)
      go_wp2;go_roundg (m - (k+1))
      case measure=>have:=h6.out;omega
      case rel =>
       have b4:=zN w2 nq none;refine⟨k+1,by have:=h6.out;omega,by go_num,?_,?_⟩
       ·rw[h7.out];exact(h8.out.kept b4 (by simp)).bool_set (k+1) (by rw[HL.out,HS.out];exact a6) true
       ·exact zD (a1.out _ b4) (zC (w2.drewN nq) ⟨g,k+1,none⟩ _)
     ·have e2':decide ((bi:Int)+1<(bs.length:Int))=false:=by rw[decide_eq_false_iff_not];omega
      have h7:=Kh (h0.out (.inr (.inr e2)));have d4:=Kh e1;clear h0 e1
      go_quiet (fail)
      go_wp2;go_roundg (m - (k+1))
      case measure=>have:=h6.out;omega
      case rel=>exact⟨k+1,by have:=h6.out;omega,by go_num,by rw[h7.out];exact h8.out.kept (zN w2 _ none) (by simp),a1.out _ (zN w2 _ none)⟩
    ·have e1':((bk:Int) == (u.size:Int))=false:=by rw[beq_eq_false_iff_ne];omega
     have h7:=Kh (h0.out (.inr (.inl e1)));clear h0
     go_quiet (fail)
     go_wp2;go_roundg (m - (k+1))
     case measure=>have:=h6.out;omega
     case rel=>exact⟨k+1,by have:=h6.out;omega,by go_num,by rw[h7.out];exact h8.out.kept (zN w2 _ none) (by simp),a1.out _ (zN w2 _ none)⟩
  ·have b2:k=m:=by have:=h6.out;omega
   have c3:¬ (k:Int)<m:=by omega
   have HR:Hid (Arr wr g 4 (bls (spr (bs.map zI) S))):=Kh (by
    unfold spr
    rw[HS.out,<- b2];exact h5)
   have H2:=Kh (zD (wE (row:=some g) b0.out) H0);clear b2 h5 H0;go_wp2;refine bodyPost_ret (v:=.slice (some ⟨g,0,none⟩) m m) (by simp[results,Try.results99,go_sem]) rfl ⟨rfl,HR.out,H2.out⟩
def setV (m g:Nat):Value:=.slice (some ⟨g,0,none⟩) m m
theorem rQ {W:World}{B B' e e' s s' n n':Nat}{v v':Value}{xs xs':List Value}(h:W.ownsRow B e s v n xs)(h':W.ownsRow B' e' s' v' n' xs')(hne:e≠e'):v.ownBlock=none\/v.ownBlock≠v'.ownBlock:=by
 rcases hv:v.ownBlock with _|j
 ·exact .inl rfl
 ·refine .inr fun e1=>?_
  obtain⟨cu,e2,mm,hh,hn⟩:=zS h hne j hv;exact zQ h' hh (fun e3=>hn e3.symm) e1.symm
theorem BX.appI {W0 W W':World}{o k:Nat}{X:Nat->Prop}{fs:List Bool}{t:List (List Int)}{hs:List Value}{sf:Option Addr}{cf:Nat}{sn:Option Addr}{cn:Nat}(h:BX W0 W o X k fs t hs sf cf sn cn){B n:Nat}{v:Value}{xs:List Value}(ho:W.ownsRow B 3 1 v n xs)(hB:W0.heap.size<=B)(hX:∀ j,v.ownBlock=some j->¬ X j)(hg:W.grownBy W' v.ownBlock):BX W0 W' o X k fs t hs sf cf sn cn:=by
 rcases hv:v.ownBlock with _|g
 ·rw[hv]at hg;exact h.grow hg
 ·rw[hv]at hg
  rcases ho.2 with ⟨rfl,_⟩|⟨b,cap,cur,rfl,hb,hh,_⟩
  ·simp[Value.ownBlock]at hv
  ·have e:b=g:=by simpa [Value.ownBlock] using hv
   subst e;exact h.put hg hh (hX b hv) (Nat.le_trans hB hb)
structure DSt (W0 W:World)(o:Nat)(X:Nat->Prop)(k m:Nat)(l:List (List Bool))(gs:List Nat)(fs:List Bool)(t:List (List Int))(hs:List Value)(sf:Option Addr)(cf:Nat)(sn:Option Addr)(cn:Nat)(ss:Option Addr)(sc:Nat):Prop where
 bx:BX W0 W o X k fs t hs sf cf sn cn
 own:W.ownsRow W0.heap.size 39 1 (.slice ss l.length sc) l.length (gs.map (setV m))
 len:gs.length=l.length
 row:∀ j,j<l.length->Arr W (gs.getD j 0) 4 (bls (l.getD j []))
 lo:∀ g∈gs,W0.heap.size<=g
 sep:∀ g∈gs,(Value.slice sf fs.length cf).ownBlock≠some g
 ll:∀ x∈l,x.length=m
section
variable {W0 W W':World} {o k m:Nat} {X:Nat->Prop} {l:List (List Bool)} {gs:List Nat} {fs:List Bool} {t:List (List Int)} {hs:List Value} {sf:Option Addr} {cf:Nat} {sn:Option Addr} {cn:Nat} {ss:Option Addr} {sc:Nat}
theorem DSt.getG (h:DSt W0 W o X k m l gs fs t hs sf cf sn cn ss sc){j:Nat}(hj:j<l.length):gs.getD j 0∈gs:=by
 rw[zG (by rw[h.len];exact hj)];exact List.getElem_mem _
theorem DSt.grow (h:DSt W0 W o X k m l gs fs t hs sf cf sn cn ss sc)(hg:W.grownBy W' none):DSt W0 W' o X k m l gs fs t hs sf cf sn cn ss sc :=
 ⟨h.bx.grow hg,zP h.own hg,h.len,fun j hj=>(h.row j hj).kept hg (by simp),h.lo,h.sep,h.ll⟩
theorem DSt.hd (h:DSt W0 W o X k m l gs fs t hs sf cf sn cn ss sc)(h0:0<l.length):∃ hq,ss=some ⟨hq,0,none⟩/\l.length<=sc/\sc<=maxLen/\∀ j,j<l.length->W.cell? ⟨hq,j,none⟩=some (.slice (some ⟨gs.getD j 0,0,none⟩) m m):=by
 obtain⟨hq,e,h1,h2,h3⟩:=yW h.own h0;refine⟨hq,e,h1,h2,fun j hj=>?_⟩;have h4:j<gs.length:=by rw[h.len];exact hj
 rw[h3.cell j (by simpa using h4)];simp[setV,List.getElem?_eq_getElem h4]
theorem DSt.pushS (h:DSt W0 W o X k m l gs fs t hs sf cf sn cn ss sc){n G:Nat}(hn:l.length=n){T:List Bool}(hT:T.length=m)(hA:Arr W G 4 (bls T))(hG:W0.heap.size<=G)(hF:(Value.slice sf fs.length cf).ownBlock≠some G){ss':Option Addr}{sc':Nat}(ho:W'.ownsRow W0.heap.size 39 1 (.slice ss' (n+1) sc') (n+1) (gs.map (setV m)++[setV m G]))(hg:W.grownBy W' (Value.slice ss n sc).ownBlock):DSt W0 W' o X k m (l++[T]) (gs++[G]) fs t hs sf cf sn cn ss' sc':=by
 subst hn
 have h0:∀ {g:Nat} {xs:List Value},Arr W g 4 xs->Arr W' g 4 xs:=fun ha=>by
  obtain⟨c,r,hc,hh⟩:=id ha;exact ha.kept hg (zQ h.own hc (by decide))
 have hz:=hg.size;have h1:∀ j,(Value.slice ss l.length sc).ownBlock=some j->yH W 3 j:=zS h.own (by decide);refine⟨⟨fun j hj=>by have:=h.bx.lt j hj;omega,zB h.bx.box hg (zQ h.own h.bx.box (by decide)),h.bx.ownF.kept hg (rQ h.bx.ownF h.own (by decide)),h.bx.ownN.kept hg (rQ h.bx.ownN h.own (by decide)),h.bx.rows.keptT hg h1,h.bx.lo,zA h.bx.grown hg (fun j e=>(h.own.lt j e).1)⟩,?_,by simp[h.len],fun j hj=>?_,fun g hg'=>?_,fun g hg'=>?_,fun x hx=>?_⟩
 ·rw[List.length_append,List.map_append];exact ho
 ·rw[List.length_append]at hj
  by_cases e:j<l.length
  ·rw[yF (by rw[h.len];exact e),yF e]
   exact h0 (h.row j e)
  ·have e2:j=l.length:=by simp at hj;omega
   subst e2;have e3:(gs++[G]).getD l.length 0=G:=by rw[<- h.len,List.getD_eq_getElem?_getD];simp
   have e4:(l++[T]).getD l.length []=T:=by rw[List.getD_eq_getElem?_getD];simp
   rw[e3,e4];exact h0 hA
 ·rcases List.mem_append.1 hg' with hh|hh
  ·exact h.lo g hh
  ·simp at hh;subst hh;exact hG
 ·rcases List.mem_append.1 hg' with hh|hh
  ·exact h.sep g hh
  ·simp at hh;subst hh;exact hF
 ·rcases List.mem_append.1 hx with hh|hh
  ·exact h.ll x hh
  ·simp at hh;subst hh;exact hT
theorem DSt.appI (h : DSt W0 W o X k m l gs fs t hs sf cf sn cn ss sc){B n : Nat}{v : Value}{xs : List Value}(ho : W.ownsRow B 3 1 v n xs)(hB : W0.heap.size <= B)(hX : ∀ j, v.ownBlock = some j -> ¬ X j)(hg : W.grownBy W' v.ownBlock): DSt W0 W' o X k m l gs fs t hs sf cf sn cn ss sc :=
 ⟨h.bx.appI ho hB hX hg, h.own.kept hg (rQ h.own ho (by decide)), h.len, fun j hj => by
  obtain⟨c, r, hc, hh⟩ := id (h.row j hj)
  exact(h.row j hj).kept hg (zQ ho hc (by decide)), h.lo, h.sep, h.ll⟩
theorem DSt.pushF (h:DSt W0 W o X k m l gs fs t hs sf cf sn cn ss sc){n:Nat}(hn:fs.length=n){b:Bool}{sf':Option Addr}{cf':Nat}(ho:W'.ownsRow o 4 1 (.slice sf' (n+1) cf') (n+1) (bls fs++[.bool b]))(hg:W.grownBy W' (Value.slice sf n cf).ownBlock)(hm:qH W W' (.slice sf n cf) (.slice sf' (n+1) cf')){W2:World}(hW2:W2=W'.setCell ⟨o,2,none⟩ (.slice sf' (n+1) cf')):DSt W0 W2 o X k m l gs (fs++[b]) t hs sf' cf' sn cn ss sc:=by
 have hp:=h.bx.pushF hn ho hg hW2;subst hn;have hb:=zB h.bx.box hg (zQ h.bx.ownF h.bx.box (by decide));have g2:=zC W' ⟨o,2,none⟩ (.slice sf' (fs.length+1) cf');rw[<- hW2]at g2;have h0:=h.own.kept hg (rQ h.own h.bx.ownF (by decide));refine⟨hp,h0.kept g2 (.inr (zQ h0 hb (by decide))),h.len,fun j hj=>?_,h.lo,fun g hgm=>?_,h.ll⟩
 ·have h1:=(h.row j hj).kept hg (h.sep _ (h.getG hj))
  exact h1.kept g2 (fun e=>h1.type_ne hb (by decide) (Oj e).symm)
 ·rw[List.length_append]
  show (Value.slice sf' (fs.length+1) cf').ownBlock≠some g;rcases hm with h1|⟨_,h1⟩
  ·rw[h1];exact h.sep g hgm
  ·intro e
   have:=h1 g e;obtain⟨j,hj,e2⟩:=List.getElem_of_mem hgm;have h2:j<l.length:=(by rw[<- h.len];exact hj);have:=(h.row j h2).lt;rw[zG hj,e2]at this;omega
theorem DSt.pushN (h:DSt W0 W o X k m l gs fs t hs sf cf sn cn ss sc){n:Nat}(hn:t.length=n){rv:Value}{row:List Int}{sn':Option Addr}{cn':Nat}{Y:Nat->Prop}(hXY:∀ j,X j->Y j)(hY:∀ j,Y j->j<W.heap.size)(ho:W'.ownsRow o 34 1 (.slice sn' (n+1) cn') (n+1) (hs++[rv]))(hg:W.grownBy W' (Value.slice sn n cn).ownBlock)(hrow:RowX Y 3 W rv (ints row)){W2:World}(hW2:W2=W'.setCell ⟨o,3,none⟩ (.slice sn' (n+1) cn')):DSt W0 W2 o Y k m l gs fs (t++[row]) (hs++[rv]) sf cf sn' cn' ss sc:=by
 have hp:=h.bx.pushN hn hXY hY ho hg hrow hW2;subst hn;have hb:=zB h.bx.box hg (zQ h.bx.ownN h.bx.box (by decide));have g2:=zC W' ⟨o,3,none⟩ (.slice sn' (t.length+1) cn');rw[<- hW2]at g2;have h0:=h.own.kept hg (rQ h.own h.bx.ownN (by decide));refine⟨hp,h0.kept g2 (.inr (zQ h0 hb (by decide))),h.len,fun j hj=>?_,h.lo,h.sep,h.ll⟩;obtain⟨c,r,hc,hh⟩:=id (h.row j hj);have h1:=(h.row j hj).kept hg (zQ h.bx.ownN hc (by decide));exact h1.kept g2 (fun e=>h1.type_ne hb (by decide) (Oj e).symm)
end
def rFs (bs:List (List Nat))(l:List (List Bool))(i:Nat):List Bool:=(l.take i).map (finP bs)
def rTs (bs:List (List Nat))(k:Nat)(l:List (List Bool))(i:Nat):List (List Int):=(l.take i).map (qC (nxtB bs) k l)
def kG (bs:List (List Nat))(l:List (List Bool))(S:List Bool)(a:Nat):List Nat:=(List.range a).map fun b=>l.idxOf (nxtB bs S b)
theorem qFP {bs:List (List Nat)}{l:List (List Bool)}{i:Nat}(h:i<=l.length):(rFs bs l i).length=i:=by simp[rFs];omega
theorem qCK {bs:List (List Nat)}{k:Nat}{l:List (List Bool)}{i:Nat}(h:i<=l.length):(rTs bs k l i).length=i:=by simp[rTs];omega
theorem rFs_next {bs:List (List Nat)}{l:List (List Bool)}{i:Nat}(h:i<l.length):rFs bs l (i+1)=rFs bs l i++[finP bs (l.getD i [])]:=by
 rw[rFs,zR (d:=[]) h,List.map_append];rfl
theorem rTs_next {bs:List (List Nat)}{k:Nat}{l:List (List Bool)}{i:Nat}(h:i<l.length):rTs bs k l (i+1)=rTs bs k l i++[qC (nxtB bs) k l (l.getD i [])]:=by
 rw[rTs,zR (d:=[]) h,List.map_append];rfl
theorem rFs_more {bs:List (List Nat)}{l m:List (List Bool)}{i:Nat}(h:i<=l.length):rFs bs (l++m) i=rFs bs l i:=by
 rw[rFs,List.take_append_of_le_length h];rfl
theorem rTs_more {bs:List (List Nat)}{k:Nat}{s0:List Bool}{l m:List (List Bool)}{i a:Nat}(h:BfsI (nxtB bs) k s0 l i a):rTs bs k (l++m) i=rTs bs k l i:=by
 rw[rTs,List.take_append_of_le_length h.le];refine List.map_congr_left fun x hx=>bfsRow_more ?_;obtain⟨j,hj,e⟩:=List.getElem_of_mem hx;rw[List.getElem_take]at e;rw[List.length_take]at hj;exact h.cl j x (by omega) (by rw[List.getElem?_eq_getElem (by omega),e])
theorem rowTo_more {bs:List (List Nat)}{k:Nat}{s0:List Bool}{l m:List (List Bool)}{i a:Nat}(h:BfsI (nxtB bs) k s0 l i a)(hi:i<l.length)(ha:a<=k):kG bs (l++m) (l.getD i []) a=kG bs l (l.getD i []) a:=by
 refine List.map_congr_left fun b hb=>?_;have hb:=List.mem_range.1 hb;rw[List.idxOf_append,if_pos];exact h.row _ (by rw[zG hi,List.getElem?_eq_getElem hi]) b hb (by omega)
theorem dW (bs:List (List Nat))(l:List (List Bool))(S:List Bool)(a:Nat):kG bs l S (a+1)=kG bs l S a++[l.idxOf (nxtB bs S a)]:=by simp[kG,List.range_succ]
theorem rowTo_full (bs:List (List Nat))(l:List (List Bool))(S:List Bool)(k:Nat):nats (kG bs l S k)=ints (qC (nxtB bs) k l S):=by simp[nats,ints,kG,qC]
theorem idx_none {l:List (List Bool)}{T:List Bool}(h:∀ j,j<l.length->l.getD j []≠T):T ∉ l:=fun hm=>by
 obtain⟨j,hj,e⟩:=List.getElem_of_mem hm
 exact h j hj (by rw[zG hj];exact e)
theorem idx_first {l:List (List Bool)}{T:List Bool}:∀ {i:Nat},i<l.length->l.getD i []=T->(∀ j,j<i->l.getD j []≠T)->l.idxOf T=i:=by
 induction l with
 | nil=>intro i hi;simp at hi
 | cons x l ih =>
  intro i hi he hj;cases i with
  | zero =>
   have:x=T:=by simpa using he
   rw[this];simp
  | succ i =>
   have h0:x≠T:=(by simpa using hj 0 (by omega));rw[List.idxOf_cons];have hb:(x == T)=false:=by rw[beq_eq_false_iff_ne];exact h0
   rw[hb];have:=ih (i:=i) (by simpa using hi) (by simpa using he) (fun j hj'=>by simpa using hj (j+1) (by omega));simp[this]
end Go.Proofs.Ytjfdomfendbhfaa
namespace Go.Proofs.Ytjfdomfendbhfaa
open Go.RowKit
def Fit:List (List UInt8)->List UInt8->List UInt8->Prop
 | [],v,r=>∃ q,r=q++v
 | u::us,v,r=>∃ p r',r=p++u++r'/\Fit us v r'
theorem Fit.more:∀ {us:List (List UInt8)} {v r:List UInt8} (p:List UInt8),Fit us v r->Fit us v (p++r)
 | [],v,r,p,⟨q,h⟩=>⟨p++q,by rw[h,List.append_assoc]⟩
 | u::us,v,r,p,⟨q,r',h,hf⟩=>⟨p++q,r',by rw[h];simp only[List.append_assoc],hf⟩
theorem qDX {r u p q:List UInt8}(h:r=p++u++q):Lib.occAt r u p.length=true:=by
 subst h;unfold Lib.occAt;rw[List.append_assoc,List.drop_left,List.isPrefixOf_iff_prefix];exact List.prefix_append _ _
theorem occAt_to {r u:List UInt8}{i:Nat}(h:Lib.occAt r u i=true)(hi:i<=r.length):r=r.take i++u++r.drop (i+u.length):=by
 unfold Lib.occAt at h;rw[List.isPrefixOf_iff_prefix]at h;obtain⟨t,ht⟩:=h;have h1:r=r.take i++(u++t):=by rw[ht,List.take_append_drop]
 have h2:r.drop (i+u.length)=t:=by rw[<- List.drop_drop,<- ht,List.drop_left]
 rw[h2,List.append_assoc];exact h1
theorem fit_cut (us:List (List UInt8))(u v r:List UInt8):Fit (u::us) v r ↔ (Lib.cut r u).2.2=true/\Fit us v (Lib.cut r u).2.1:=by
 unfold Lib.cut;rcases Lib.index_spec r u with ⟨h,hno⟩|⟨i,h,hi,hocc,hno⟩
 ·rw[if_neg (by omega)]
  constructor
  ·rintro ⟨p,r',hr,_⟩
   have:=hno p.length (by rw[hr];simp);rw[qDX hr]at this;cases this
  ·rintro ⟨h,_⟩;cases h
 ·rw[if_pos (by omega),h]
  simp only[Int.toNat_natCast,true_and];constructor
  ·rintro ⟨p,r',hr,hf⟩
   have h0:i<=p.length:=by
    rcases Nat.lt_or_ge p.length i with hlt|hge
    ·have:=hno p.length hlt
     rw[qDX hr]at this;cases this
    ·exact hge
   have hd:r.drop (p.length+u.length)=r':=by
    rw[hr,<- List.length_append,List.drop_left]
   have he:r.drop (i+u.length)=(r.drop (i+u.length)).take (p.length - i)++r':=by
    have e:r'=(r.drop (i+u.length)).drop (p.length - i):=by rw[List.drop_drop,<- hd];congr 1;omega
    rw[e,List.take_append_drop]
   rw[he];exact hf.more _
  ·intro hf
   exact⟨_,_,occAt_to hocc hi,hf⟩
theorem iK:∀ (us:List (List UInt8)) (r v:List UInt8),mI us r v=true ↔ Fit us v r
 | [],r,v=>by
  show Lib.hasSuffix r v=true ↔ _
  unfold Lib.hasSuffix
  rw[List.isSuffixOf_iff_suffix]
  exact⟨fun⟨q,h⟩=>⟨q,h.symm⟩,fun⟨q,h⟩=>⟨q,h.symm⟩⟩
 | u::us,r,v=>by
  rw[fit_cut]
  unfold mI rG
  by_cases h:(Lib.cut r u).2.2=true
  ·rw[if_pos h]
   have:=iK us (Lib.cut r u).2.1 v
   unfold mI at this
   rw[this]
   exact⟨fun h'=>⟨h,h'⟩,fun h'=>h'.2⟩
  ·rw[if_neg h]
   exact⟨fun h'=>(by cases h'),fun h'=>absurd h'.1 h⟩
def eY:List (List UInt8)->List UInt8->Prop
 | [],_=>False
 | [b],s=>s=b
 | b::c::rest,s=>∃ r,s=b++r/\Fit (c::rest).dropLast ((c::rest).getLastD []) r
theorem plainMatch_iff:∀ (bs:List (List UInt8)) (s:List UInt8),uA bs s=true ↔ eY bs s
 | [],s=>by simp[uA,eY]
 | [b],s=>by simp[uA,eY]
 | b::c::rest,s=>by
  simp only[uA,eY,Bool.and_eq_true,iK]
  unfold Lib.hasPrefix
  rw[List.isPrefixOf_iff_prefix]
  constructor
  ·rintro ⟨⟨t,ht⟩,hf⟩
   refine⟨t,ht.symm,?_⟩
   rwa [<- ht,List.drop_left]at hf
  ·rintro ⟨r,rfl,hf⟩
   exact⟨List.prefix_append _ _,by rwa [List.drop_left]⟩
theorem cX {n:Nat}{letters:Int}:∀ (bs:List ByteArray) (i:Nat),(∀ j (h:j<bs.length),uU n letters (i+j) bs[j]=true)->wX n letters i bs=true
 | [],_,_=>rfl
 | b::bs,i,h=>by
  have h1:=h 0 (by simp)
  have h2:=cX bs (i+1) fun j hj=>by
   have:=h (j+1) (by simpa using hj)
   rwa [show i+1+j=i+(j+1) by omega]
  simp only[wX]
  rw[h2,Bool.and_true]
  simpa using h1
def letU (c:UInt8):Nat:=c.toNat - 97
theorem letU_inj {x y:UInt8}(hx:97<=x.toNat)(hy:97<=y.toNat)(h:letU x=letU y):x=y:=by
 unfold letU at h;exact UInt8.toNat_inj.1 (by omega)
def okU (l:List UInt8):Prop:=∀ x∈l,97<=x.toNat
theorem mK:∀ {l m:List UInt8},okU l->okU m->l.map letU=m.map letU->l=m
 | [],[],_,_,_=>rfl
 | [],y::m,_,_,h=>by simp at h
 | x::l,[],_,_,h=>by simp at h
 | x::l,y::m,hl,hm,h=>by
  simp only[List.map_cons,List.cons.injEq]at h
  rw[letU_inj (hl x (by simp)) (hm y (by simp)) h.1,mK (fun z hz=>hl z (List.mem_cons_of_mem _ hz)) (fun z hz=>hm z (List.mem_cons_of_mem _ hz)) h.2]
def TlU:List (List UInt8)->List UInt8->Prop
 | [],r=>r=[]
 | u::us,r=>∃ p r',r=p++u++r'/\TlU us r'
theorem qEJ:∀ (us:List (List UInt8)) (v r:List UInt8),Fit us v r ↔ TlU (us++[v]) r
 | [],v,r=>⟨fun⟨q,h⟩=>⟨q,[],by simp[h],rfl⟩,fun⟨p,r',h,h'⟩=>⟨p,by rw[h,show r'=[] from h'];simp⟩⟩
 | u::us,v,r=>by
  constructor
  ·rintro ⟨p,r',h,hf⟩;exact⟨p,r',h,(qEJ us v r').1 hf⟩
  ·rintro ⟨p,r',h,hf⟩;exact⟨p,r',h,(qEJ us v r').2 hf⟩
theorem qDD:∀ {us:List (List UInt8)} {r:List UInt8},(∀ u∈us,okU u)->okU r->(TlU us r ↔ TlN (us.map (List.map letU)) (r.map letU))
 | [],r,_,_=>by
  show r=[] ↔ r.map letU=[]
  rw[List.map_eq_nil_iff]
 | u::us,r,hu,hr=>by
  constructor
  ·rintro ⟨p,r',rfl,h⟩
   refine⟨p.map letU,r'.map letU,by simp,(qDD (fun x hx=>hu x (List.mem_cons_of_mem _ hx)) (fun x hx=>hr x (List.mem_append_right _ hx))).1 h⟩
  ·rintro ⟨p,r',h,ht⟩
   obtain⟨a,c,rfl,h1,rfl⟩:=List.map_eq_append_iff.1 h
   obtain⟨a1,b1,rfl,rfl,h2⟩:=List.map_eq_append_iff.1 h1
   have hb:b1=u:=mK (fun x hx=>hr x (by simp[hx])) (hu u (by simp)) h2
   subst hb
   exact⟨a1,c,rfl,(qDD (fun x hx=>hu x (List.mem_cons_of_mem _ hx)) (fun x hx=>hr x (List.mem_append_right _ hx))).2 ht⟩
theorem pat_mapU:∀ {bs:List (List UInt8)} {s:List UInt8},(∀ u∈bs,okU u)->okU s->(eY bs s ↔ PatN (bs.map (List.map letU)) (s.map letU))
 | [],s,_,_=>Iff.rfl
 | [b],s,hb,hs=>by
  show s=b ↔ ∃ r,s.map letU=b.map letU++r/\r=[]
  constructor
  ·rintro rfl;exact⟨[],by simp,rfl⟩
  ·rintro ⟨r,h,rfl⟩
   exact mK hs (hb b (by simp)) (by simpa using h)
 | b::c::rest,s,hb,hs=>by
  have hl:(c::rest)=(c::rest).dropLast++[(c::rest).getLastD []]:=by
   rw[List.getLastD_eq_getLast?,List.getLast?_eq_some_getLast (List.cons_ne_nil c rest)];exact(List.dropLast_concat_getLast (List.cons_ne_nil c rest)).symm
  have h0:∀ u∈c::rest,okU u:=fun x hx=>hb x (List.mem_cons_of_mem _ hx);constructor
  ·rintro ⟨r,rfl,hf⟩
   refine⟨r.map letU,by simp,?_⟩;have:=(qEJ _ _ _).1 hf;rw[<- hl]at this;exact(qDD h0 (fun x hx=>hs x (List.mem_append_right _ hx))).1 this
  ·rintro ⟨r,h,ht⟩
   obtain⟨a,r',rfl,h1,rfl⟩:=List.map_eq_append_iff.1 h;have ha:a=b:=mK (fun x hx=>hs x (List.mem_append_left _ hx)) (hb b (by simp)) h1;subst ha;refine⟨r',rfl,(qEJ _ _ _).2 ?_⟩;rw[<- hl];exact(qDD h0 (fun x hx=>hs x (List.mem_append_right _ hx))).2 ht
theorem lZ {s:ByteArray}{k:Int}(h:zY s k=true):okU s.data.toList:=fun x hx=>by
 simp only[zY,Bool.and_eq_true,List.all_eq_true]at h
 have:=h.2 x hx
 unfold pL at this
 rw[decide_eq_true_eq]at this
 omega
theorem qW {s:ByteArray}{k l:Int}(h:zY s k=true)(hkl:k<=l)(hl:l<=6):zY s l=true:=by
 simp only[zY,Bool.and_eq_true,decide_eq_true_eq,List.all_eq_true]at h ⊢;refine⟨⟨by omega,hl,h.1.2.2⟩,fun c hc=>?_⟩;have:=h.2 c hc;unfold pL at this ⊢;rw[decide_eq_true_eq]at this ⊢;omega
theorem oV {bs:List ByteArray}{k l:Int}(h:yM bs k=0)(hkl:k<=l)(hl:l<=6):yM bs l=0:=by
 obtain⟨h1,h2,h3,h4,h5,h6⟩:=wT h;rw[lB (by omega) (by omega) (by omega) (by omega) (by omega),if_pos];refine cX _ _ fun j hj=>?_;have:=mF h6 j hj;unfold uU at this ⊢;rw[Bool.and_eq_true]at this ⊢;exact⟨qW this.1 hkl hl,this.2⟩
theorem match_pat {bs:List ByteArray}{s:ByteArray}{k:Nat}(h:yM bs (k:Int)=0)(hs:zY s (k:Int)=true):xO bs s=true ↔ PatN (bs.map zI) (zI s):=by
 obtain⟨h1,h6,h0,h8,ht,hw,_⟩:=qCN h;rw[xO,oV h h6 (Int.le_refl 6),qW hs h6 (Int.le_refl 6)];simp only[decide_true,Bool.true_and]
 rw[plainMatch_iff,pat_mapU (fun u hu=>by
  obtain⟨b,hb,rfl⟩:=List.mem_map.1 hu;obtain⟨i,hi,rfl⟩:=List.getElem_of_mem hb
  exact lZ (hw i hi)) (lZ hs),List.map_map]
 rfl
theorem iG {bs:List ByteArray}{k:Int}(h:yM bs k=0):∃ b us,bs.map zI=b::us/\∀ u∈us.dropLast,u≠[]:=by
 obtain⟨h1,h6,h0,h8,ht,hw,h2⟩:=qCN h
 match bs,h0 with
 | b::rest,_ =>
  refine⟨zI b,rest.map zI,rfl,fun u hu=>?_⟩;obtain⟨i,hi,rfl⟩:=List.getElem_of_mem hu
  have h3:i+1<rest.length:=by
   rw[List.length_dropLast,List.length_map]at hi;omega
  have:=h2 (i+1) (by simp;omega) (by omega) (by simp;omega);simp only[List.getElem_cons_succ]at this;intro e;rw[List.getElem_dropLast,List.getElem_map]at e;have e2:=congrArg List.length e;rw[yQ,List.length_nil]at e2;omega
theorem patDfa_acc {bs:List ByteArray}{s:ByteArray}{k:Nat}(h:yM bs (k:Int)=0)(hs:zY s (k:Int)=true):acc (xF bs (k:Int)) (st0 (xF bs (k:Int))) (zI s)=xO bs s:=by
 obtain⟨h1,h6,h0,h8,ht,hw,_⟩:=qCN h;have h7:1<=k:=by omega
 have h5:k<=6:=by omega
 obtain⟨b,us,hb,h4⟩:=iG h;have h2:=(sQ hs).1;have h3:=lN h7 h5 h0 ht;rw[xF,if_pos (vW.2 h),Int.toNat_natCast];show acc (minD (patD k (bs.map zI)) k) 0 (zI s)=_;rw[qGC h3 h2];rw[Bool.eq_iff_iff,match_pat h hs,hb];exact qFV h4 h2
theorem qAT {bs:List ByteArray}{k:Nat}(h:yM bs (k:Int)=0):∃ n,n<=66/\VD (xF bs (k:Int)) n k:=by
 obtain⟨h1,h6,h0,h8,ht,hw,_⟩:=qCN h;have h2:=lN (k:=k) (by omega) (by omega) h0 ht;have hl:=nL (k:=k) h0 ht;rw[xF,if_pos (vW.2 h),Int.toNat_natCast];exact⟨_,Nat.le_trans (qGD h2) hl.2,iJ h2⟩
end Go.Proofs.Ytjfdomfendbhfaa
namespace Go.Proofs.Ytjfdomfendbhfaa
def qBO (n:Nat):Code->Option Code
 | .block i c=>if i=n then some c else qBO n c
 | .seq a b=>match qBO n a with
  | some c=>some c
  | none=>qBO n b
 | .cond _ a b=>match qBO n a with
  | some c=>some c
  | none=>qBO n b
 | .loop c=>qBO n c
 | .scope c=>qBO n c
 | _=>none
noncomputable def blk (f:Func)(n:Nat):Code:=(f.body.bind (qBO n)).getD .skip
def qBN (n:Nat):Code->Option Code
 | .region i o d=>if i=n then some (.region i o d) else none
 | .block _ c=>qBN n c
 | .seq a b=>match qBN n a with
  | some c=>some c
  | none=>qBN n b
 | .cond _ a b=>match qBN n a with
  | some c=>some c
  | none=>qBN n b
 | .loop c=>qBN n c
 | .scope c=>qBN n c
 | _=>none
noncomputable def reg (f:Func)(n:Nat):Code:=(f.body.bind (qBN n)).getD .skip
open Go.Maps Go.RowKit
theorem qIP {w w':World}{p:Addr}{u:Value}(h:w.cell? p=some u)(hg:w.grownBy w' none):w'.cell? p=some u:=(World.cell?_of_block (hg.block p.block (World.block_lt_of_cell? w p h) (by simp))).trans h
theorem rd_pos {Q:Exit->Act->World->Prop}{v0 v1 v3 v4 v5 v6 v9 v10 v11 v12 v13 v14 v15 v16 v19 v20 v21 v22 v23 v24 v25 v26 v27 v28 v29 v30 v31 v32 v33 v34 v35 v36 v37 v38 v39 v40 v41 v42 v43 v44 v45 v46 v47 v48 v49 v50 v51 v52 v53 v54 v55 v56 v57 v58 v59 v60 v61 v62 v63 v64 v65 v66 v67 v68 v69 v70 v71 v72 v73 v74 v75 v76 v77 v78 v79 v80 v81 v82 v83 v84 v85 v86 v87 v88 v89 v90 v91 v92 v93 v94 v95 v96 v97 v98 v99 v100 v101 v102 v103 v104 v105 v106 v107 v108 v109 v110 v114 v115 v116 v117 v118 v119 v120 v121 v122 v123 v124 v125 v126 v127 v128 v129 v130 v131 v132 v133 v134 v135 v136 v137 v138 v139 v140 v141 v142 v143 v144 v145 v146 v147 v148 v149 v150 v151 v152 v153 v154 v155 v156 v157 v158 v159 v160 v161 v162 v163 v164 v165 v166 v167 v168 v169 v170 v171 v172 v173 v174 v175 v176 v177 v178 v179 v180 v181 v182 v183 v184 v185 v186 v187 v188 v189 v190 v191 v192 v193 v194 v195 v196 v197 v198 v199 v200 v201 v202 v203 v204 v205 v206 v207 v208 v209 v210 v211 v212 v213 v214 v215 v216:Value}{w5 wA ws:World}{bs:List ByteArray}{L:List (List Nat)}{S:List Bool}{kb off cap P pb pc mb n k x G gi:Nat}(HL:Hid (L=bs.map zI))(HLL:Hid (L.length=bs.length))(HLP:Hid (∀ i,i<bs.length->lenP L i=(bs.getD i ⟨#[]⟩).size))(HME:Hid (n=(xX L).length))(HPV:Hid (yM bs k=0))(HCX:Hid (RCtx w5 bs kb off cap pb pc mb n))(HGR5:Hid (w5.grownBy wA none))(HPC5:Hid (∀ W:World,w5.grownBy W none->W.cell? ⟨P,0,none⟩=some (.slice (some ⟨kb,off,none⟩) bs.length cap)))(HROW:Hid (Arr wA gi 4 (bls S)))(HSL:Hid (S.length=n))(HGE:Hid (G=wA.heap.size))(HA0:Hid (Arr ws G 4 (bls (yI L n S x 0))))(HGS:Hid (wA.grownBy ws none))(hlm':bs.length<=9223372036854775807)(hcm:cap<=9223372036854775807)(hbc:bs.length<=cap)(hpc:n<=pc)(hpcx:pc<=9223372036854775807)(hm:n<=22)(hn0m:0<n)(hk6:k<=6)(hx:x<k)(hexit:∀ (z19 z20 z21 z113 z114 z115 z116 z117 z118 z119 z120 z121 z122 z123 z124 z125 z126 z127 z128 z129 z130 z131 z132 z133 z134 z135 z136 z137 z138 z139 z140 z141 z142 z143 z144 z145 z146 z147 z148 z149 z150 z151 z152 z153 z154 z155 z156 z157 z158 z159 z160 z161 z162 z163 z164 z165 z166 z167 z168 z169 z170:Value) (wr:World),Arr wr G 4 (bls (yI L n S x n))->wA.grownBy wr none->Q .normal ⟨(v0::v1::(Value.pointer (some ⟨P,0,none⟩))::v3::v4::v5::v6::(Value.slice (some ⟨pb,0,none⟩) n pc)::(Value.map (some mb))::v9::v10::v11::v12::v13::v14::v15::v16::(Value.int .i64 x)::(Value.slice (some ⟨G,0,none⟩) n n)::z19::z20::z21::v22::v23::v24::v25::v26::v27::v28::v29::v30::v31::v32::v33::v34::v35::v36::v37::v38::v39::v40::v41::v42::v43::v44::v45::v46::v47::v48::v49::v50::v51::v52::v53::v54::v55::v56::v57::v58::v59::v60::v61::v62::v63::v64::v65::v66::v67::v68::v69::v70::v71::v72::v73::v74::v75::v76::v77::v78::v79::v80::v81::v82::v83::v84::v85::v86::v87::v88::v89::v90::v91::v92::v93::v94::v95::v96::v97::v98::v99::v100::v101::v102::v103::v104::v105::v106::v107::v108::v109::v110::(Value.slice (some ⟨gi,0,none⟩) n n)::(Value.int .i64 n)::z113::z114::z115::z116::z117::z118::z119::z120::z121::z122::z123::z124::z125::z126::z127::z128::z129::z130::z131::z132::z133::z134::z135::z136::z137::z138::z139::z140::z141::z142::z143::z144::z145::z146::z147::z148::z149::z150::z151::z152::z153::z154::z155::z156::z157::z158::z159::z160::z161::z162::z163::z164::z165::z166::z167::z168::z169::z170::v171::v172::v173::v174::v175::v176::v177::v178::v179::v180::v181::v182::v183::v184::v185::v186::v187::v188::v189::v190::v191::v192::v193::v194::v195::v196::v197::v198::v199::v200::v201::v202::v203::v204::v205::v206::v207::v208::v209::v210::v211::v212::v213::v214::v215::v216::[]).toArray,[]⟩ wr):Code.wp Try.prog (blk Try.f79 8) (Exit.inBlock 8 Q) ⟨(v0::v1::(Value.pointer (some ⟨P,0,none⟩))::v3::v4::v5::v6::(Value.slice (some ⟨pb,0,none⟩) n pc)::(Value.map (some mb))::v9::v10::v11::v12::v13::v14::v15::v16::(Value.int .i64 x)::(Value.slice (some ⟨G,0,none⟩) n n)::v19::v20::v21::v22::v23::v24::v25::v26::v27::v28::v29::v30::v31::v32::v33::v34::v35::v36::v37::v38::v39::v40::v41::v42::v43::v44::v45::v46::v47::v48::v49::v50::v51::v52::v53::v54::v55::v56::v57::v58::v59::v60::v61::v62::v63::v64::v65::v66::v67::v68::v69::v70::v71::v72::v73::v74::v75::v76::v77::v78::v79::v80::v81::v82::v83::v84::v85::v86::v87::v88::v89::v90::v91::v92::v93::v94::v95::v96::v97::v98::v99::v100::v101::v102::v103::v104::v105::v106::v107::v108::v109::v110::(Value.slice (some ⟨gi,0,none⟩) n n)::(Value.int .i64 n)::(Value.int .i64 0)::v114::v115::v116::v117::v118::v119::v120::v121::v122::v123::v124::v125::v126::v127::v128::v129::v130::v131::v132::v133::v134::v135::v136::v137::v138::v139::v140::v141::v142::v143::v144::v145::v146::v147::v148::v149::v150::v151::v152::v153::v154::v155::v156::v157::v158::v159::v160::v161::v162::v163::v164::v165::v166::v167::v168::v169::v170::v171::v172::v173::v174::v175::v176::v177::v178::v179::v180::v181::v182::v183::v184::v185::v186::v187::v188::v189::v190::v191::v192::v193::v194::v195::v196::v197::v198::v199::v200::v201::v202::v203::v204::v205::v206::v207::v208::v209::v210::v211::v212::v213::v214::v215::v216::[]).toArray,[]⟩ ws:=by
 have d5:(x:Int)<k:=by omega
 conv=>arg 2;whnf
 go_loopg [19,20,21,113] n (fun gh s19 s20 s21 i wp=>∃ p:Nat,gh+p=n/\i=.int .i64 p/\Arr wp G 4 (bls (yI L n S x p))/\wA.grownBy wp none)
 case atStart=>exact⟨0,rfl,rfl,HA0.out,HGS.out⟩
 case round =>
  clear HA0 HGS;obtain⟨p,a3,rfl,H2,H9⟩:=hrel;have h4:=Kh a3;have HA:=Kh H2;have b8:=Kh H9;clear a3;have h7:=zA HGR5.out H9 (by simp);by_cases hp:p<n
  ·have c7:(p:Int)<n:=by omega
   have a4:=HCX.out.grow h7;obtain⟨bi,bk,H5,c8,b2,b5,a2,cx0,cx1,cu⟩:=a4.at hp;obtain⟨u,hu⟩:∃ u,u=bs.getD bi ⟨#[]⟩:=⟨_,rfl⟩;rw[<- hu]at c8 a2 cu;obtain⟨c,hc⟩:∃ c,c=S.getD p false:=⟨_,rfl⟩;have c0:=(HROW.out.kept H9 (by simp)).bool p (by rw[HSL.out];exact hp);rw[<- hc]at c0;have c9:(bi:Int)<bs.length:=(by omega);rw[<- HL.out]at b2 b5 a2
   have d7:u.size<=22:=by
    have h9:=rE (bs:=L) (i:=bi) (k:=lenP L bi) (by rw[HLL.out];exact H5) (Nat.le_refl _);rw[<- HME.out,a2]at h9;omega
   have H1:∀ i (hi:i<u.size),97<=u[i].toNat/\u[i].toNat - 97<k:=by
    rw[hu,zG H5];have:=(qCN HPV.out).2.2.2.2.2.1 bi H5;exact(sQ this).2.1
   have a5:=Kh b2;have d3:=Kh b5;have a6:=Kh a2;have HU:=Kh hu;have HC:=Kh hc;have d2:=Kh H1;clear b2 b5 a2 hu hc H2 H9 h7 a4 H1;go_upto_region 31 with fail;have a8:=Ga wr (.cells #[.int .i64 (bi:Int),.int .i64 (bk:Int)] 152) none;have a9:=heap_alloc_new wr (.cells #[.int .i64 (bi:Int),.int .i64 (bk:Int)] 152);obtain⟨v2,b1⟩:∃ v2,v2=wr.alloc (.cells #[.int .i64 (bi:Int),.int .i64 (bk:Int)] 152):=⟨_,rfl⟩;obtain⟨A,hA⟩:∃ A,A=wr.heap.size:=⟨_,rfl⟩;rw[<- b1,<- hA];rw[<- b1]at a8 a9;rw[<- hA]at a9;obtain⟨d0,d1⟩:=vL a9;have e2:G≠A:=(by have:=HA.out.lt;omega);have H4:=zA b8.out a8 (by simp);have h7:=zA HGR5.out H4 (by simp);have cu2:=vU ((HCX.out.grow h7).blk) bi H5;rw[<- HU.out]at cu2;have cP2:=HPC5.out _ h7;have H0:=Kh (HA.out.kept a8 (by simp));have c4:=Kh (HCX.out.grow h7);have h3:Hid (∀ w',v2.grownBy w' none->wA.grownBy w' none):=Kh (fun w' hg=>zA H4 hg (by simp));have b6:=uL L n S x p;have H6:=Kh b6;have ca0:=H0.out.bool p (by rw[b6];exact hp);have fa0:=H0.out.frozen p;obtain⟨o0,c2⟩:∃ o0,o0=(yI L n S x p).getD p false:=⟨_,rfl⟩;rw[<- c2]at ca0
   have H7:Hid (c=true->yI L n S x (p+1)=(if stP (bi,bk) then (if leP L (bi,bk) x then (yI L n S x p).set (p+1) true else yI L n S x p).set p true else (if leP L (bi,bk) x then (yI L n S x p).set (p+1) true else yI L n S x p))):=Kh (fun hcc=>by
    show lJ L S x p (yI L n S x p)=_
    rw[lJ,if_pos (by rw[bitP,<- HC.out];exact hcc),d3.out])
   have H8:Hid (c=false->yI L n S x (p+1)=yI L n S x p):=Kh (fun hcc=>by
    show lJ L S x p (yI L n S x p)=_
    rw[lJ,if_neg (by rw[bitP,<- HC.out,hcc];simp)])
   clear b1 hA a8 a9 H4 h7 b6 c2 c0 cx0 cx1 cu HA b8;cases c with
   | false =>
    have h6:=Kh (H8.out rfl);clear H7 H8;go_wp2;go_roundg (n - (p+1))
    case measure=>have:=h4.out;omega
    case rel=>exact⟨p+1,by have:=h4.out;omega,by go_num,by rw[h6.out];exact H0.out,h3.out _ (zL _ _)⟩
   | true =>
    have h0:=Kh (H7.out rfl);clear H7 H8;by_cases hlt:bk<u.size
    ·have b3:decide ((bk:Int)<(u.size:Int))=true:=by rw[decide_eq_true_eq];omega
     obtain⟨b0,a0,a1,d6,d8,e0,c3⟩:=jX d2.out hlt
     have c5:Hid (leP L (bi,bk) x=(a0 == x)):=Kh (by
      have e1:L.getD bi []=zI u:=by rw[HL.out,nthL_get H5,nthL,<- HU.out]
      rw[leP,a6.out,decide_eq_true hlt,Bool.true_and,e1,c3])
     clear c3;by_cases hax:a0=x
     ·have b4:((a0:Int) == (x:Int))=true:=by simp[hax]
      have h5:Hid (leP L (bi,bk) x=true):=Kh (by rw[c5.out];simp[hax]);have H3:=c4.out.num (bi:=bi) (bk:=bk+1) H5 (by rw[<- HU.out];exact hlt);rw[<- HL.out,<- Nat.add_assoc,<- a5.out]at H3;have a7:p+1<n:=H3.2;have c6:(p:Int)+1<n:=by omega
      have d9:∀ qq,(Instr.lookup 150 (.map (some mb)) (.agg #[.int .i64 (bi:Int),.int .i64 ((bk:Int)+1)]) false).run Try.prog (v2.drewN qq)=.ok (.int .i64 ((p:Int)+1)) (v2.drewN qq):=fun qq=>by
       have:=((c4.out.grow (zN v2 qq none)).num (bi:=bi) (bk:=bk+1) H5 (by rw[<- HU.out];exact hlt)).1;rw[<- HL.out,<- Nat.add_assoc,<- a5.out]at this;simpa [posV] using this
      have ca1:=H0.out.bool (p+1) (by rw[H6.out];exact a7);have fa1:=H0.out.frozen (p+1);obtain⟨o1,c1⟩:∃ o1,o1=(yI L n S x p).getD (p+1) false:=⟨_,rfl⟩;rw[<- c1]at ca1;clear H3 c1 hax;by_cases hz:bk=0
      ·have ez:((bk:Int) == 0)=true:=by simp[hz]
       have HZ:=Kh hz;by_cases a1:0<bi
       ·have eb:decide (0<(bi:Int))=true:=by rw[decide_eq_true_eq];omega
        have h2:Hid (stP (bi,bk)=true):=Kh (by simp[stP,HZ.out,a1]);clear hz;have h6:Hid (yI L n S x (p+1)=((yI L n S x p).set (p+1) true).set p true):=Kh (by rw[h0.out,h2.out,h5.out];rfl);clear h0 h2 h5;go_wp2_with fail
        go_quiet (fail)
        go_wp2;go_roundg (n - (p+1))
        case measure=>have:=h4.out;omega
        case rel =>
         have h1:=zN v2 nq none;have h8:=H0.out.kept h1 (by simp);refine⟨p+1,by have:=h4.out;omega,by go_num,?_,?_⟩
         ·rw[h6.out];exact(h8.bool_set (p+1) (by rw[H6.out];exact a7) true).bool_set p (by rw[List.length_set,H6.out];exact hp) true
         ·exact zA (zA (h3.out _ h1) (zC (v2.drewN nq) ⟨G,p+1,none⟩ _) (fun y e=>by have e:G=y:=Oj e;have:=HGE.out;omega)) (zC ((v2.drewN nq).setCell ⟨G,p+1,none⟩ _) ⟨G,p,none⟩ _) (fun y e=>by have e:G=y:=Oj e;have:=HGE.out;omega)
       ·have eb:decide (0<(bi:Int))=false:=by rw[decide_eq_false_iff_not];omega
        have h2:Hid (stP (bi,bk)=false):=Kh (by simp[stP];omega);clear hz;have h6:Hid (yI L n S x (p+1)=(yI L n S x p).set (p+1) true):=Kh (by rw[h0.out,h2.out,h5.out];rfl);clear h0 h2 h5;go_wp2_with fail
        go_quiet (fail)
        go_wp2;go_roundg (n - (p+1))
        case measure=>have:=h4.out;omega
        case rel =>
         have h1:=zN v2 nq none;have h8:=H0.out.kept h1 (by simp);refine⟨p+1,by have:=h4.out;omega,by go_num,?_,?_⟩
         ·rw[h6.out];exact h8.bool_set (p+1) (by rw[H6.out];exact a7) true
         ·exact zA (h3.out _ h1) (zC (v2.drewN nq) ⟨G,p+1,none⟩ _) (fun y e=>by have e:G=y:=Oj e;have:=HGE.out;omega)
      ·have ez:((bk:Int) == 0)=false:=by rw[beq_eq_false_iff_ne];omega
       have h2:Hid (stP (bi,bk)=false):=Kh (by simp[stP,hz]);clear hz;have h6:Hid (yI L n S x (p+1)=(yI L n S x p).set (p+1) true):=Kh (by rw[h0.out,h2.out,h5.out];rfl);clear h0 h2 h5;go_wp2_with fail
       go_quiet (fail)
       go_wp2;go_roundg (n - (p+1))
       case measure=>have:=h4.out;omega
       case rel =>
        have h1:=zN v2 nq none;have h8:=H0.out.kept h1 (by simp);refine⟨p+1,by have:=h4.out;omega,by go_num,?_,?_⟩
        ·rw[h6.out];exact h8.bool_set (p+1) (by rw[H6.out];exact a7) true
        ·exact zA (h3.out _ h1) (zC (v2.drewN nq) ⟨G,p+1,none⟩ _) (fun y e=>by have e:G=y:=Oj e;have:=HGE.out;omega)
     ·have b4:((a0:Int) == (x:Int))=false:=by rw[beq_eq_false_iff_ne];omega
      have h5:Hid (leP L (bi,bk) x=false):=Kh (by rw[c5.out];simp[hax]);clear hax;by_cases hz:bk=0
      ·have ez:((bk:Int) == 0)=true:=by simp[hz]
       have HZ:=Kh hz;by_cases a1:0<bi
       ·have eb:decide (0<(bi:Int))=true:=by rw[decide_eq_true_eq];omega
        have h2:Hid (stP (bi,bk)=true):=Kh (by simp[stP,HZ.out,a1]);clear hz;have h6:Hid (yI L n S x (p+1)=(yI L n S x p).set p true):=Kh (by rw[h0.out,h2.out,h5.out];rfl);clear h0 h2 h5;go_wp2_with fail
        go_quiet (fail)
        go_wp2;go_roundg (n - (p+1))
        case measure=>have:=h4.out;omega
        case rel =>
         have h1:=zN v2 nq none;have h8:=H0.out.kept h1 (by simp);refine⟨p+1,by have:=h4.out;omega,by go_num,?_,?_⟩
         ·rw[h6.out];exact h8.bool_set p (by rw[H6.out];exact hp) true
         ·exact zA (h3.out _ h1) (zC (v2.drewN nq) ⟨G,p,none⟩ _) (fun y e=>by have e:G=y:=Oj e;have:=HGE.out;omega)
       ·have eb:decide (0<(bi:Int))=false:=by rw[decide_eq_false_iff_not];omega
        have h2:Hid (stP (bi,bk)=false):=Kh (by simp[stP];omega);clear hz;have h6:Hid (yI L n S x (p+1)=yI L n S x p):=Kh (by rw[h0.out,h2.out,h5.out];rfl);clear h0 h2 h5;go_wp2_with fail
        go_quiet (fail)
        go_wp2;go_roundg (n - (p+1))
        case measure=>have:=h4.out;omega
        case rel =>
         have h1:=zN v2 nq none;have h8:=H0.out.kept h1 (by simp);refine⟨p+1,by have:=h4.out;omega,by go_num,?_,?_⟩
         ·rw[h6.out];exact h8
         ·exact h3.out _ h1
      ·have ez:((bk:Int) == 0)=false:=by rw[beq_eq_false_iff_ne];omega
       have h2:Hid (stP (bi,bk)=false):=Kh (by simp[stP,hz]);clear hz;have h6:Hid (yI L n S x (p+1)=yI L n S x p):=Kh (by rw[h0.out,h2.out,h5.out];rfl);clear h0 h2 h5;go_wp2_with fail
       go_quiet (fail)
       go_wp2;go_roundg (n - (p+1))
       case measure=>have:=h4.out;omega
       case rel =>
        have h1:=zN v2 nq none;have h8:=H0.out.kept h1 (by simp);refine⟨p+1,by have:=h4.out;omega,by go_num,?_,?_⟩
        ·rw[h6.out];exact h8
        ·exact h3.out _ h1
    ·have b3:decide ((bk:Int)<(u.size:Int))=false:=by rw[decide_eq_false_iff_not];omega
     have h5:Hid (leP L (bi,bk) x=false):=Kh (by rw[leP,a6.out,decide_eq_false hlt,Bool.false_and]);by_cases hz:bk=0
     ·have ez:((bk:Int) == 0)=true:=by simp[hz]
      have HZ:=Kh hz;by_cases a1:0<bi
      ·have eb:decide (0<(bi:Int))=true:=by rw[decide_eq_true_eq];omega
       have h2:Hid (stP (bi,bk)=true):=Kh (by simp[stP,HZ.out,a1]);clear hz;have h6:Hid (yI L n S x (p+1)=(yI L n S x p).set p true):=Kh (by rw[h0.out,h2.out,h5.out];rfl);clear h0 h2 h5;go_wp2_with fail
       go_quiet (fail)
       go_wp2;go_roundg (n - (p+1))
       case measure=>have:=h4.out;omega
       case rel =>
        have h1:=zN v2 nq none;have h8:=H0.out.kept h1 (by simp);refine⟨p+1,by have:=h4.out;omega,by go_num,?_,?_⟩
        ·rw[h6.out];exact h8.bool_set p (by rw[H6.out];exact hp) true
        ·exact zA (h3.out _ h1) (zC (v2.drewN nq) ⟨G,p,none⟩ _) (fun y e=>by have e:G=y:=Oj e;have:=HGE.out;omega)
      ·have eb:decide (0<(bi:Int))=false:=by rw[decide_eq_false_iff_not];omega
       have h2:Hid (stP (bi,bk)=false):=Kh (by simp[stP];omega);clear hz;have h6:Hid (yI L n S x (p+1)=yI L n S x p):=Kh (by rw[h0.out,h2.out,h5.out];rfl);clear h0 h2 h5;go_wp2_with fail
       go_quiet (fail)
       go_wp2;go_roundg (n - (p+1))
       case measure=>have:=h4.out;omega
       case rel =>
        have h1:=zN v2 nq none;have h8:=H0.out.kept h1 (by simp);refine⟨p+1,by have:=h4.out;omega,by go_num,?_,?_⟩
        ·rw[h6.out];exact h8
        ·exact h3.out _ h1
     ·have ez:((bk:Int) == 0)=false:=by rw[beq_eq_false_iff_ne];omega
      have h2:Hid (stP (bi,bk)=false):=Kh (by simp[stP,hz]);clear hz;have h6:Hid (yI L n S x (p+1)=yI L n S x p):=Kh (by rw[h0.out,h2.out,h5.out];rfl);clear h0 h2 h5;go_wp2_with fail
      go_quiet (fail)
      go_wp2;go_roundg (n - (p+1))
      case measure=>have:=h4.out;omega
      case rel =>
       have h1:=zN v2 nq none;have h8:=H0.out.kept h1 (by simp);refine⟨p+1,by have:=h4.out;omega,by go_num,?_,?_⟩
       ·rw[h6.out];exact h8
       ·exact h3.out _ h1
  ·have c7:¬ (p:Int)<n:=by omega
   have b9:p=n:=by have:=h4.out;omega
   have d4:Hid (Arr wr G 4 (bls (yI L n S x n))):=Kh (by have h9:=H2;rw[b9]at h9;exact h9);have b7:=Kh H9;clear H2 H9 h7 b9 HA b8;go_wp2;exact hexit _ _ _ _ _ _ _ _ _ _ _ _ _ _ _ _ _ _ _ _ _ _ _ _ _ _ _ _ _ _ _ _ _ _ _ _ _ _ _ _ _ _ _ _ _ _ _ _ _ _ _ _ _ _ _ _ _ _ _ _ _ _ d4.out b7.out
theorem rd_reg {K K1 K2 K3:Act->World->Prop}{post:Ending->World->Prop}{v0 v1 v3 v4 v5 v6 v7 v9 v10 v11 v16 v17 v18 v19 v20 v21 v22 v23 v24 v25 v26 v27 v28 v29 v30 v31 v32 v33 v34 v35 v36 v37 v38 v39 v40 v41 v42 v43 v44 v45 v46 v47 v48 v49 v50 v51 v52 v53 v54 v55 v56 v57 v58 v59 v60 v61 v62 v63 v64 v65 v66 v67 v68 v69 v70 v71 v72 v73 v74 v75 v76 v77 v78 v79 v80 v81 v82 v83 v84 v85 v86 v87 v88 v89 v90 v91 v92 v93 v94 v95 v96 v97 v98 v99 v100 v101 v102 v103 v104 v105 v106 v107 v108 v109 v110 v111 v112 v113 v114 v115 v116 v117 v118 v119 v120 v121 v122 v123 v124 v125 v126 v127 v128 v129 v130 v131 v132 v133 v134 v135 v136 v137 v138 v139 v140 v141 v142 v143 v144 v145 v146 v147 v148 v149 v150 v151 v152 v153 v154 v155 v156 v157 v158 v159 v160 v161 v162 v163 v164 v165 v166 v167 v168 v169 v170 v171 v172 v173 v174 v175 v176 v177 v178 v179 v180 v181 v182 v183 v184 v185 v186 v187 v188 v189 v190 v191 v192 v193 v194 v195 v196 v197 v198 v199 v200 v201 v202 v203 v204 v205 v206 v207 v208 v209 v210 v211 v212 v213 v214 v215 v216:Value}{wo:World}{bs:List ByteArray}{ul:ByteArray}{fs:List Bool}{D:World->Option Addr->Nat->Prop}{kb off cap P mb n gi hq0 m sc oD q R1 F cf:Nat}{sf:Option Addr}{bf:Bool}(HOF:Hid (∀ W1:World,wo.grownBy W1 none->W1.ownsRow oD 4 1 (.slice sf q cf) q (bls fs)/\oD<=W1.heap.size))(HPUSH:Hid (∀ (W1 w':World) (sf':Option Addr) (cf':Nat),w'.ownsRow oD 4 1 (.slice sf' (q+1) cf') (q+1) (bls fs++[.bool bf])->W1.grownBy w' (Value.slice sf q cf).ownBlock->qH W1 w' (.slice sf q cf) (.slice sf' (q+1) cf')->wo.grownBy W1 none->D (w'.setCell ⟨oD,2,none⟩ (.slice sf' (q+1) cf')) sf' cf'/\w'.frozen? ⟨oD,2,none⟩=false/\w'.cell? ⟨oD,2,none⟩=some (.slice sf q cf)))(hlk:∀ qq,(Instr.lookup 150 (.map (some mb)) (.agg #[.int .i64 (R1:Int),.int .i64 (ul.size:Int)]) false).run Try.prog (wo.drewN qq)=.ok (.int .i64 (F:Int)) (wo.drewN qq))(hlk1:(Instr.lookup 150 (.map (some mb)) (.agg #[.int .i64 (R1:Int),.int .i64 (ul.size:Int)]) false).run Try.prog wo.drew=.ok (.int .i64 (F:Int)) wo.drew)(hlk0:(Instr.lookup 150 (.map (some mb)) (.agg #[.int .i64 (R1:Int),.int .i64 (ul.size:Int)]) false).run Try.prog wo=.ok (.int .i64 (F:Int)) wo)(d2:wo.cell? ⟨oD,2,none⟩=some (.slice sf q cf))(fz2:wo.frozen? ⟨oD,2,none⟩=false)(pP:wo.cell? ⟨P,0,none⟩=some (.slice (some ⟨kb,off,none⟩) bs.length cap))(cF:wo.cell? ⟨gi,F,none⟩=some (.bool bf))(cul:wo.cell? ⟨kb,off+R1,none⟩=some (.string ul))(chd:wo.cell? ⟨hq0,q,none⟩=some (.slice (some ⟨gi,0,none⟩) n n))(hlm':bs.length<=9223372036854775807)(hcm:cap<=9223372036854775807)(hbc:bs.length<=cap)(hm:n<=22)(hR1l:R1<bs.length)(hq:q<m)(hsc:m<=sc)(hscm':sc<=9223372036854775807)(hFn:F<n)(hl22:m<=4194304)(hexit:∀ (z79 z80 z81 z82 z83 z84 z85 z86 z87 z88 z89 z90 z91 z92 z93 z94 z95 z96 z97 z98 z99:Value) (w':World) (sf':Option Addr) (cf':Nat),D w' sf' cf'->K ⟨(v0::v1::(Value.pointer (some ⟨P,0,none⟩))::v3::v4::v5::v6::v7::(Value.map (some mb))::v9::v10::v11::(Value.int .i64 R1)::(Value.slice (some ⟨hq0,0,none⟩) m sc)::(Value.pointer (some ⟨oD,0,none⟩))::(Value.int .i64 q)::v16::v17::v18::v19::v20::v21::v22::v23::v24::v25::v26::v27::v28::v29::v30::v31::v32::v33::v34::v35::v36::v37::v38::v39::v40::v41::v42::v43::v44::v45::v46::v47::v48::v49::v50::v51::v52::v53::v54::v55::v56::v57::v58::v59::v60::v61::v62::v63::v64::v65::v66::v67::v68::v69::v70::v71::v72::v73::v74::v75::v76::v77::v78::z79::z80::z81::z82::z83::z84::z85::z86::z87::z88::z89::z90::z91::z92::z93::z94::z95::z96::z97::z98::z99::v100::v101::v102::v103::v104::v105::v106::v107::v108::v109::v110::v111::v112::v113::v114::v115::v116::v117::v118::v119::v120::v121::v122::v123::v124::v125::v126::v127::v128::v129::v130::v131::v132::v133::v134::v135::v136::v137::v138::v139::v140::v141::v142::v143::v144::v145::v146::v147::v148::v149::v150::v151::v152::v153::v154::v155::v156::v157::v158::v159::v160::v161::v162::v163::v164::v165::v166::v167::v168::v169::v170::v171::v172::v173::v174::v175::v176::v177::v178::v179::v180::v181::v182::v183::v184::v185::v186::v187::v188::v189::v190::v191::v192::v193::v194::v195::v196::v197::v198::v199::v200::v201::v202::v203::v204::v205::v206::v207::v208::v209::v210::v211::v212::v213::v214::v215::v216::[]).toArray,[]⟩ w'):Code.wp Try.prog (reg Try.f79 21) (Exit.then K (Exit.inBlock 5 (Exit.then K1 (Exit.then K2 (Exit.inBlock 4 (Exit.then K3 (bodyPost Try.prog Try.f79 post))))))) ⟨(v0::v1::(Value.pointer (some ⟨P,0,none⟩))::v3::v4::v5::v6::v7::(Value.map (some mb))::v9::v10::v11::(Value.int .i64 R1)::(Value.slice (some ⟨hq0,0,none⟩) m sc)::(Value.pointer (some ⟨oD,0,none⟩))::(Value.int .i64 q)::v16::v17::v18::v19::v20::v21::v22::v23::v24::v25::v26::v27::v28::v29::v30::v31::v32::v33::v34::v35::v36::v37::v38::v39::v40::v41::v42::v43::v44::v45::v46::v47::v48::v49::v50::v51::v52::v53::v54::v55::v56::v57::v58::v59::v60::v61::v62::v63::v64::v65::v66::v67::v68::v69::v70::v71::v72::v73::v74::v75::v76::v77::v78::v79::v80::v81::v82::v83::v84::v85::v86::v87::v88::v89::v90::v91::v92::v93::v94::v95::v96::v97::v98::v99::v100::v101::v102::v103::v104::v105::v106::v107::v108::v109::v110::v111::v112::v113::v114::v115::v116::v117::v118::v119::v120::v121::v122::v123::v124::v125::v126::v127::v128::v129::v130::v131::v132::v133::v134::v135::v136::v137::v138::v139::v140::v141::v142::v143::v144::v145::v146::v147::v148::v149::v150::v151::v152::v153::v154::v155::v156::v157::v158::v159::v160::v161::v162::v163::v164::v165::v166::v167::v168::v169::v170::v171::v172::v173::v174::v175::v176::v177::v178::v179::v180::v181::v182::v183::v184::v185::v186::v187::v188::v189::v190::v191::v192::v193::v194::v195::v196::v197::v198::v199::v200::v201::v202::v203::v204::v205::v206::v207::v208::v209::v210::v211::v212::v213::v214::v215::v216::[]).toArray,[]⟩ wo:=by
 have H1:(R1:Int)<bs.length:=by omega
 have H3:(q:Int)<m:=by omega
 have h8:=World.block_lt_of_cell? _ _ d2;have h7:=World.block_lt_of_cell? _ _ pP;have h6:=World.block_lt_of_cell? _ _ cF;have h5:=World.block_lt_of_cell? _ _ cul;have h4:=World.block_lt_of_cell? _ _ chd;simp only at h8 h7 h6 h5 h4
 conv=>arg 2;whnf
 go_region_law (first|(refine uX ?g1 (.tmp 80) (.tmp 97) 39 ?g2 xW.toN oD (.slice sf q cf) q (bls fs) ?g3 ?g4 [.bool bf] wo.heap.size ?g5 (0,0) ?g6 ?g7 ?g7b ?g8 ?g9 ?g10 ?_;(case g1=>rfl);(case g2=>rfl);(case g3=>rfl);(case g4=>(refine(HOF.out _ ?_).1;exact wU (o:=.cells #[.bool bf] 4) rfl rfl rfl rfl));(case g5=>rfl);(case g6=>rfl);(case g7=>exact heap_alloc_new (wo.drew) _);(case g7b=>(intro u hu;simp at hu;subst hu;rfl));(case g8=>(unfold maxLen;omega));(case g9=>omega);(case g10=>(refine(HOF.out _ ?_).2;exact wU (o:=.cells #[.bool bf] 4) rfl rfl rfl rfl));intro sf8 cf8 w8 h0 h3 h1;have h2:=HPUSH.out _ _ _ _ h0 h3 h1 (wU (o:=.cells #[.bool bf] 4) rfl rfl rfl rfl);have h9:=h2.2.1;have H0:=h2.2.2;have H2:=Kh h2;clear h2 h0 h3 h1)|fail)
 all_goals
  go_wp2_with fail;exact hexit _ _ _ _ _ _ _ _ _ _ _ _ _ _ _ _ _ _ _ _ _  _ sf8 cf8 H2.out.1
end Go.Proofs.Ytjfdomfendbhfaa
