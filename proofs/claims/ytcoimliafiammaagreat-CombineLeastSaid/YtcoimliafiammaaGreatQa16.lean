/- Part 16 of the proof. -/
import Derived.Test.YtcoimliafiammaaGreatQa15
set_option linter.unusedVariables false
set_option linter.unusedSimpArgs false
set_option maxRecDepth 100000
set_option maxHeartbeats 16000000
namespace Go.Proofs.YtcoimliafiammaaGreat
open Go.RowKit
theorem jL (B:Nat)(w:World)(v:Value)(d:DfaV)(hB:B<=w.heap.size)(h:tM B w v d):Calls Tryz.prog 25 #[v] w fun e w'=>e=.returned (.int .i64 (xK d))/\w.grownBy w' none:=by
 obtain⟨fv,nv,rfl,hf,hn⟩:=h;have a2:=hf.len_le;rw[yV]at a2;unfold maxLen at a2;have a5:=hn.len_le;unfold maxLen at a5;obtain⟨fa,fc,rfl⟩:=hf.shape;rw[yV]at hf⊢;obtain⟨na,nc,rfl⟩:=hn.shape;have HN:=Kh hn;obtain⟨n,a0⟩:=Nm d.final.length;obtain⟨m,a1⟩:=Nm d.next.length;obtain⟨L,hL⟩:=Nm d.letters;obtain⟨S,hS⟩:=Nm d.start;rw[<-a0]at a2⊢;rw[<-a1]at a5 HN⊢;rw[<-hL,<-hS];obtain⟨H0,H1,H8,b0⟩:=K4 a0 a1 hL hS;clear hf hn a0 a1 hL hS;obtain⟨wA,H6⟩:=Nm (w.alloc (.cells #[.int .i64 L,.int .i64 S,.slice fa n fc,.slice na m nc] 30));have h3:wA.heap[w.heap.size]?=some (.cells #[.int .i64 L,.int .i64 S,.slice fa n fc,.slice na m nc] 30 (0,0)):=by rw[H6];exact heap_alloc_new w _
 have a7:w.grownBy wA none:=by rw[H6];exact Ga w _ none
 have c0:=zJ h3 0;have c1:=zJ h3 1;have c2:=zJ h3 2;have c3:=zJ h3 3;simp only[sPd,sPe,sPf]at c0 c1 c2 c3;have h4:=Kh a7;have h9:=Kh H6;clear h3 a7 H6;by_cases hl:L<1\/6<L
 ·have HE:=Kh (kE (d:=d) (by rw[<-H8.out];exact hl))
  have h8:decide (1<=L/\L<=6)=false:=decide_eq_false (by omega);go_enter Tryz.func25,Tryz.ntmps25;go_wp2_with fail;rw[<-h9.out];refine(yK wA L).mono ?_;rintro e w1 ⟨rfl,rfl⟩;rw[h8];go_wp2;go_ret;exact⟨yA HE.out.symm,h4.out⟩
 have c7:1<=L:=by omega
 have c6:L<=6:=by omega
 have H2:Hid (¬(d.letters<1\/6<d.letters)):=Kh (by rw[<-H8.out];exact hl);have h8:decide (1<=L/\L<=6)=true:=decide_eq_true (by omega);clear hl;by_cases h5:512<n
 ·have HE:=Kh (bX H2.out (by rw[<-H0.out];exact h5))
  go_enter Tryz.func25,Tryz.ntmps25;go_wp2_with fail;rw[<-h9.out];refine(yK wA L).mono ?_;rintro e w1 ⟨rfl,rfl⟩;rw[h8];go_wp2;go_ret;exact⟨yA HE.out.symm,h4.out⟩
 have H5:Hid (¬512<d.final.length):=Kh (by rw[<-H0.out];exact h5);by_cases hsh:n=0\/m≠n\/S<0\/n<=S
 ·have HE:=Kh (gR H2.out H5.out (by rw[<-H0.out,<-H1.out,<-b0.out];exact hsh))
  by_cases h0:n=0
  ·have e0:((n:Int) == 0)=true:=by rw[beq_iff_eq];omega
   clear hsh h0;go_enter Tryz.func25,Tryz.ntmps25;go_wp2_with fail;rw[<-h9.out];refine(yK wA L).mono ?_;rintro e w1 ⟨rfl,rfl⟩;rw[h8];go_wp2;go_ret;exact⟨yA HE.out.symm,h4.out⟩
  have e0:((n:Int) == 0)=false:=by rw[beq_eq_false_iff_ne];omega
  by_cases h7:m=n
  ·have e1:((m:Int) != n)=false:=by rw[h7];simp
   have b7:=Kh h7;by_cases hs:S<0
   ·clear hsh h7
    go_enter Tryz.func25,Tryz.ntmps25;go_wp2_with fail;rw[<-h9.out];refine(yK wA L).mono ?_;rintro e w1 ⟨rfl,rfl⟩;rw[h8];go_wp2;go_ret;exact⟨yA HE.out.symm,h4.out⟩
   have b1:(n:Int)<=S:=by omega
   clear hsh h7;go_enter Tryz.func25,Tryz.ntmps25;go_wp2_with fail;rw[<-h9.out];refine(yK wA L).mono ?_;rintro e w1 ⟨rfl,rfl⟩;rw[h8];go_wp2;go_ret;exact⟨yA HE.out.symm,h4.out⟩
  have e1:((m:Int) != n)=true:=by rw[bne_iff_ne];omega
  clear hsh;go_enter Tryz.func25,Tryz.ntmps25;go_wp2_with fail;rw[<-h9.out];refine(yK wA L).mono ?_;rintro e w1 ⟨rfl,rfl⟩;rw[h8];go_wp2;go_ret;exact⟨yA HE.out.symm,h4.out⟩
 have H7:Hid (¬(d.final.length=0\/d.next.length≠d.final.length\/d.start<0\/d.final.length<=d.start)):=Kh (by rw[<-H0.out,<-H1.out,<-b0.out];exact hsh);have h0:0<n:=(by omega);have e0:((n:Int) == 0)=false:=by rw[beq_eq_false_iff_ne];omega
 have h7:m=n:=by omega
 have e1:((m:Int) != n)=false:=by rw[h7];simp
 have c4:0<=S:=by omega
 have b1:S<n:=(by omega);have b2:0<m:=(by omega);have a9:Mat B wA (.slice na m nc) d.next:=HN.out.kept h4.out (by simp);obtain⟨b,off,cap,A,C,e,b6,b5,a6⟩:=a9.some_ (by rw[<-H1.out];exact b2);simp only[Value.slice.injEq]at e;obtain⟨rfl,-,rfl⟩:=e;rw[<-H1.out]at b6;have c5:nc<=9223372036854775807:=by unfold maxLen at b5;omega
 have HM:=Kh a6;have b7:=Kh h7;clear hsh h7 a9 a6;go_enter Tryz.func25,Tryz.ntmps25;go_wp2_with fail;rw[<-h9.out];refine(yK wA L).mono ?_;rintro e w1 ⟨rfl,rfl⟩;rw[h8];go_wp2
 go_loopg [40] m (fun g i wr=>∃k:Nat,g+k=m/\i=.int .i64 k/\xCZ d k/\wA=wr)
 case atStart=>exact⟨0,rfl,rfl,fun x hx=>absurd hx (by omega),rfl⟩
 obtain⟨k,hg,rfl,H3,rfl⟩:=hrel;have OK:=Kh H3;have HG:=Kh hg;clear H3 hg;by_cases hk:k<m
 ·have H4:k<d.next.length:=by rw[<-H1.out];exact hk
  have a8:=HM.out.hd k H4;have h6:=HM.out.row k H4;have H9:=h6.len_le;rw[yF]at H9;unfold maxLen at H9;obtain⟨r,hr⟩:=Nm (d.next.getD k []);rw[<-hr]at a8 h6 H9;have HR:=Kh hr;have a3:=Kh H4;clear hr H4;by_cases hlr:(r.length:Int)=L
  ·have b8:=Kh hlr
   have b3:((r.length:Int) != L)=false:=by rw[hlr];simp
   obtain⟨rb,ro,rc,e,hb,h1,h2,a4⟩:=h6.some_ (by rw[yF];omega);simp only[Value.slice.injEq]at e;obtain⟨eA,-,rfl⟩:=e;rw[eA]at a8;rw[yF]at h1;have HA:=Kh eA;have RA:=Kh a4;clear eA a4 hlr h6;go_wp2
   go_loopg [51] r.length (fun g j wr'=>∃y:Nat,g+y=r.length/\j=.int .i64 y/\qYW n r y/\wA=wr')
   case atStart=>exact⟨0,rfl,rfl,fun x hx=>absurd hx (by omega),rfl⟩
   obtain⟨y,hg,rfl,H3,rfl⟩:=hrel;have OKY:=Kh H3;have b9:=Kh hg;clear H3 hg;by_cases hy:y<r.length
   ·have b4:=RA.out.int y hy
    obtain⟨z,hz⟩:=Nm (r.getD y 0);rw[<-hz]at b4;have HZ:=Kh hz;clear hz;by_cases hb1:z<0
    ·have HE:=Kh (qJ H2.out H5.out H7.out a3.out (by rw[<-HR.out];exact fU (y:=y) hy (by rw[<-HZ.out];exact .inl hb1)))
     go_wp2;go_ret;exact⟨yA HE.out.symm,h4.out⟩
    by_cases hb2:(n:Int)<=z
    ·have HE:=Kh (qJ H2.out H5.out H7.out a3.out (by rw[<-HR.out];exact fU (y:=y) hy (by rw[<-HZ.out,<-H0.out];exact .inr hb2)))
     go_wp2;go_ret;exact⟨yA HE.out.symm,h4.out⟩
    go_wp2;go_roundg (r.length-(y+1))
    case measure=>have:=b9.out;omega
    refine⟨y+1,by omega,by go_num,fun x hx=>?_,rfl⟩;rcases Nat.lt_succ_iff_lt_or_eq.1 hx with hx|rfl
    ·exact OKY.out x hx
    rw[<-HZ.out];omega
   go_wp2;go_roundg (m-(k+1))
   case measure=>have:=HG.out;omega
   refine⟨k+1,by omega,by go_num,fun x hx=>?_,rfl⟩;rcases Nat.lt_succ_iff_lt_or_eq.1 hx with hx|rfl
   ·exact OK.out x hx
   rw[<-HR.out,oY,<-H0.out,<-H8.out];exact⟨b8.out,fun z hz=>OKY.out z (by omega)⟩
  have b3:((r.length:Int) != L)=true:=by rw[bne_iff_ne];exact hlr
  have HE:=Kh (qJ H2.out H5.out H7.out a3.out (by rw[<-HR.out];exact qJL (by rw[<-H8.out];exact hlr)));clear hlr;go_wp2;go_ret;exact⟨yA HE.out.symm,h4.out⟩
 have HE:=Kh (qCZ H2.out H5.out H7.out (fun q hq=>OK.out q (by have:=H1.out;omega)));go_wp2;go_ret;exact⟨yA HE.out.symm,h4.out⟩
open Go.Maps
def qLM (d : DfaV)(ps : List (List ByteArray))(n E : Int): Prop :=
 (ofE d ps ≠ 0 ∧ n = 0 ∧ E = ofE d ps) ∨ (ofE d ps = 0 ∧ n = 0 ∧ E = 3 ∧ Over (ofT d ps) d.letters.toNat) ∨
  (ofE d ps = 0 ∧ ∃ (L : List (List Nat)) (sets : List (List Bool)) (ys ns : List Bool), BfsD (nxtT (ofT d ps)) d.letters.toNat (st0T (ofT d ps)) L ∧ L.length ≤ 4000 ∧ GrpI (MT (ofT d ps) ps.length L) (AT (ofT d ps) ps.length L) L.length L.length sets ys ns ∧ n = (sets.length : Int) ∧
   ((E = 20 ∧ ∃ i, i < sets.length ∧ ys.getD i false = true ∧ ns.getD i false = true) ∨ (E = 0 ∧ ∀ i, i < sets.length → ¬ (ys.getD i false = true ∧ ns.getD i false = true))))
def xDA (w:World)(d:DfaV)(ps:List (List ByteArray))(e:Ending)(w':World):Prop:=∃n E,e=.returned (.tuple #[.int .i64 n,.int .i64 E])/\w.grownBy w' none/\qLM d ps n E
theorem qJM (Bd:Nat)(w:World)(dv pv:Value)(d:DfaV)(ps:List (List ByteArray))(a7:Bd<=w.heap.size)(hd:tM Bd w dv d)(hp:vE Bd w pv ps)(a8:ps.length<=4096)(a9:∀p∈ps,patW p d.letters=0->rM p<=14):Calls Tryz.prog 26 #[dv,pv] w (xDA w d ps):=by
 have H0:=hd;obtain⟨fv,nv,rfl,hf,hn⟩:=hd;obtain⟨fa,fc,rfl⟩:=hf.shape;rw[yV]at H0 hf⊢;obtain⟨na,nc,rfl⟩:=hn.shape;obtain⟨pa,pc,rfl⟩:=hp.shape;obtain⟨np,H3⟩:=Nm ps.length;obtain⟨fl,b2⟩:=Nm d.final.length;obtain⟨nl,a5⟩:=Nm d.next.length;obtain⟨dl,b4⟩:=Nm d.letters;obtain⟨ds,b3⟩:=Nm d.start;rw[<-H3]at hp;rw[<-H3];rw[<-b2,<-a5,<-b4,<-b3]at H0⊢;have HD:=Kh H0;have HP:=Kh hp;obtain⟨wA,H5⟩:=Nm (w.alloc (.cells #[.int .i64 dl,.int .i64 ds,.slice fa fl fc,.slice na nl nc] 30));have h5:=Ga w (.cells #[.int .i64 dl,.int .i64 ds,.slice fa fl fc,.slice na nl nc] 30) none;have h7:=heap_alloc_new w (.cells #[.int .i64 dl,.int .i64 ds,.slice fa fl fc,.slice na nl nc] 30);obtain⟨Q,hQ⟩:=Nm w.heap.size;rw[<-H5]at h5 h7;rw[<-hQ]at h7;obtain⟨c0,c1,c2,c3⟩:=zE h7;obtain⟨c5,b7,d0,c4⟩:=K4 hQ h5 h7 H5;have H7:=Kh (jL Bd wA _ d (by have:=h5.size;omega) (HD.out.kept h5 (by simp)));have H8:Hid (∀W:World,wA.grownBy W none->xK d=0->Calls Tryz.prog 52 #[.agg #[.int .i64 dl,.int .i64 ds,.slice fa fl fc,.slice na nl nc],.slice pa np pc] W (qTX W d ps)):=Kh (fun W hW h0=>qGV Bd W _ _ d ps (by have:=h5.size;have:=hW.size;omega) (HD.out.kept (zA h5 hW) (by simp)) (HP.out.kept (zA h5 hW) (by simp)) a8 h0 a9);obtain⟨E,hE⟩:=Nm (xK d);rw[<-hE]at H7 H8;have HE:=Kh hE;clear h7 h5 H5 hQ hf hn H0 hp H3 b2 a5 b4 b3 hE a9;go_enter Tryz.func26,Tryz.ntmps26;go_upto_region 1 with fail;rw[<-c4.out,<-c5.out];go_wp2_with fail;refine H7.out.mono ?_;rintro e w1 ⟨rfl,H4⟩;have a1:=Kh H4;have c9:=Kh (zB d0.out H4);clear H4 c0 c1 c2 c3;by_cases hE0:E=0
 case neg =>
  have e1:(E != 0)=true:=by rw[bne_iff_ne];exact hE0
  have h9:Hid (ofE d ps=E):=Kh (by rw[qQU (by rw[<-HE.out];exact hE0),HE.out]);have c8:=Kh hE0;clear hE0;go_wp2;refine bodyPost_ret (v:=.tuple #[.int .i64 0,.int .i64 E]) (by simp[results,Tryz.results26,go_sem]) rfl ?_;exact⟨0,E,rfl,zA b7.out a1.out,.inl ⟨by rw[h9.out];exact c8.out,rfl,h9.out.symm⟩⟩
 subst hE0;obtain⟨c0,c1,c2,c3⟩:=zE c9.out;have h6:=Kh (H8.out w1 a1.out rfl);go_wp2_with fail;refine h6.out.mono ?_;have H1:Hid (ofE d ps=autE d.letters ps):=Kh (by unfold ofE;rw[if_pos HE.out.symm];rfl);clear c0 c1 c2 c3 h6 H8 H7;rintro e w2 ⟨b1,H2⟩;have a0:=Kh (zA (zA b7.out a1.out) b1);clear b1;rcases H2 with ⟨a,rfl,ha0,hwhy⟩|⟨haE,B,L,sets,ys,ns,m,sc,yc,nc',sa,ya,na',rfl,hB,hm,hbfs,hl4,h4,hoy,hon⟩
 ·have e1:(a != 0)=true:=by rw[bne_iff_ne];exact ha0
  have d1:=Kh ha0;have H6:=Kh hwhy;clear ha0 hwhy;go_wp2;refine bodyPost_ret (v:=.tuple #[.int .i64 0,.int .i64 a]) (by simp[results,Tryz.results26,go_sem]) rfl ?_;refine⟨0,a,rfl,a0.out,?_⟩;rcases H6.out with h|⟨h1,h2,h3⟩
  ·exact .inl ⟨by rw[H1.out,<-h];exact d1.out,rfl,by rw[H1.out,<-h]⟩
  exact .inr (.inl ⟨by rw[H1.out,h1],rfl,h2,h3⟩)
 have h8:Hid (∀E:Int,((E=20/\∃i,i<sets.length/\ys.getD i false=true/\ns.getD i false=true)\/(E=0/\∀i,i<sets.length->¬(ys.getD i false=true/\ns.getD i false=true)))->qLM d ps (m:Int) E):=Kh (fun E h=>.inr (.inr ⟨by rw[H1.out,haE],L,sets,ys,ns,hbfs,hl4,h4,by rw[hm],h⟩));obtain⟨HM,c6,c7⟩:=K3 hm hoy hon;have b6:Hid (ys.length=m/\ns.length=m):=Kh ⟨by rw[h4.leny,hm],by rw[h4.lenn,hm]⟩;have d4:m<=4000:=by have:=h4.len_le;omega
 clear haE hB hm hbfs hl4 h4 hoy hon;obtain⟨w5,rfl⟩:=Nm (w2:World);go_wp2
 go_loopg [11,30] m (fun gh v11 v30 wr=>∃i:Nat,gh+i=m/\v30=.int .i64 i/\w5.grownBy wr none/\∀x,x<i->¬(ys.getD x false=true/\ns.getD x false=true))
 case atStart=>exact⟨0,rfl,rfl,zH _ _,fun x hx=>by omega⟩
 obtain⟨i,h4,rfl,hg,a4⟩:=hrel;obtain⟨H9,b5,HG⟩:=K3 h4 a4 hg;clear h4 a4;by_cases hi:i<m
 ·have b9:(i:Int)<m:=by omega
  obtain⟨yb,rfl,d2,a3,a2⟩:=yH (zP c6.out hg) (by omega);obtain⟨nb,rfl,d3,b0,a6⟩:=yH (zP c7.out hg) (by omega);have cy:=a2.bool i (by rw[b6.out.1];exact hi);have cn:=a6.bool i (by rw[b6.out.2];exact hi);obtain⟨y,hy⟩:=Nm (ys.getD i false);obtain⟨z,hz⟩:=Nm (ns.getD i false);rw[<-hy]at cy;rw[<-hz]at cn;have HY:=Kh hy;have HZ:=Kh hz;have ky:yc<=9223372036854775807:=by unfold maxLen at a3;omega
  have kn:nc'<=9223372036854775807:=by unfold maxLen at b0;omega
  clear hy hz a2 a6 hg a3 b0;cases y<;>cases z
  case true.true =>
   go_wp2;refine bodyPost_ret (v:=.tuple #[.int .i64 (m:Int),.int .i64 20]) (by simp[results,Tryz.results26,go_sem]) rfl ?_;exact⟨m,20,rfl,zA a0.out HG.out,h8.out 20 (.inl ⟨rfl,i,by rw[<-HM.out];exact hi,HY.out.symm,HZ.out.symm⟩)⟩
  all_goals
   go_wp2;go_roundg (m-(i+1))
   case measure=>have:=H9.out;omega
   refine⟨i+1,by have:=H9.out;omega,by go_num,HG.out,fun x hx=>?_⟩;rcases Nat.lt_succ_iff_lt_or_eq.1 hx with hx|rfl
   ·exact b5.out x hx
   rw[<-HY.out,<-HZ.out];simp
 have b8:i=m:=by have:=H9.out;omega
 have b9:¬(i:Int)<m:=(by omega);subst b8;go_wp2;refine bodyPost_ret (v:=.tuple #[.int .i64 (i:Int),.int .i64 0]) (by simp[results,Tryz.results26,go_sem]) rfl ?_;exact⟨i,0,rfl,zA a0.out HG.out,h8.out 0 (.inr ⟨rfl,by rw[<-HM.out];exact b5.out⟩)⟩
end Go.Proofs.YtcoimliafiammaaGreat
namespace Go.Proofs.YtcoimliafiammaaGreat
theorem qWX {ds:List DfaV}{np k:Nat}{L:List (List Nat)}{a9:List (List Bool)}{ys ns:List Bool}(hn:np<ds.length)(hL:BfsD (nxtT ds) k (st0T ds) L)(h:GrpI (MT ds np L) (AT ds np L) L.length L.length a9 ys ns):(∃i,i<a9.length/\ys.getD i false=true/\ns.getD i false=true)↔Conf ds np k:=by
 constructor
 ·rintro ⟨i,hi,hy,hz⟩
  obtain⟨a,ha,e1,e2⟩:=(h.yes i hi).1 hy;obtain⟨b,hb,e3,e4⟩:=(h.no i hi).1 hz;exact(lX hn hL).2 ⟨L.getD a [],L.getD b [],by rw[zG ha];exact List.getElem_mem ha,by rw[zG hb];exact List.getElem_mem hb,e1.trans e3.symm,e2,e4⟩
 intro hc;obtain⟨x,y,hx,hy,h1,h2,h3⟩:=(lX hn hL).1 hc;obtain⟨i,hi,rfl⟩:=List.getElem_of_mem hx;obtain⟨j,hj,rfl⟩:=List.getElem_of_mem hy;rw[<-zG (d:=[]) hi]at h1 h2;rw[<-zG (d:=[]) hj]at h1 h3;obtain⟨q,hq,e⟩:=List.getElem_of_mem (h.all i hi);rw[<-zG (d:=[]) hq]at e;exact⟨q,hq,(h.yes q hq).2 ⟨i,hi,e.symm,h2⟩,(h.no q hq).2 ⟨j,hj,h1.symm.trans e.symm,h3⟩⟩
theorem xBL {w':World}{d:DfaV}{ps:List (List ByteArray)}{v:Value}{u1 u2:ByteArray}{E n F:Int}(h:OfOut w' d ps v u1 u2 E)(h':qLM d ps n F):E=F:=by
 have h0:ps.length<(ofT d ps).length:=by rw[uV];omega
 rcases h' with ⟨a1,_,a3⟩|⟨a1,_,a3,a4⟩|⟨a1,L',sets,ys,ns,hL',hl',hg,hn',hF⟩
 ·cases h with
  | bad _=>exact a3.symm
  | over h _=>exact absurd h a1
  | conf h=>exact absurd h a1
  | ok _ _ _ _ h=>exact absurd h a1
 ·cases h with
  | bad h=>exact absurd a1 h
  | over _ _=>exact a3.symm
  | conf _ hu=>exact(oF hu a4).elim
  | ok _ _ _ L _ hL hl4=>exact(oF ⟨L,hL,hl4⟩ a4).elim
 have hc:=qWX h0 hL' hg;cases h with
 | bad h=>exact absurd a1 h
 | over _ ho=>exact(oF ⟨L',hL',hl'⟩ ho).elim
 | conf _ _ hcf =>
  rcases hF with ⟨e,_⟩|⟨_,e2⟩
  ·exact e.symm
  obtain⟨i,hi,h1⟩:=hc.2 hcf;exact(e2 i hi h1).elim
 | ok _ _ _ _ _ _ _ hno =>
  rcases hF with ⟨_,e2⟩|⟨e,_⟩
  ·exact absurd (hc.1 e2) hno
  exact e.symm
open Go.RowKit
def exts (bs:List (List (List Int)))(ws:List (List Int)):List (List (List Int)):=bs.flatMap fun b=>ws.map fun u=>b++[u]
def chB (ws:List (List Int)):Nat->List (List (List Int))
 | 0=>ws.map oneB
 | i+1=>exts (chB ws i) (ws.drop 1)
def chL (ws:List (List Int)):Nat->List (List (List Int))
 | 0=>ws.map oneB
 | i+1=>chL ws i++exts (chB ws i) ws
theorem qCK (ws:List (List Int))(i:Nat):∀d,chL ws i <+: chL ws (i+d)
 | 0=>List.prefix_refl _
 | d+1=>(qCK ws i d).trans (List.prefix_append _ _)
theorem mX {bs:List (List (List Int))}{ws:List (List Int)}{p:Nat}(hp:p<bs.length):exts (bs.take (p+1)) ws=exts (bs.take p) ws++ws.map fun u=>bs[p]++[u]:=by
 rw[exts,List.take_succ_eq_append_getElem hp,List.flatMap_append];simp[exts]
theorem qXE (bs:List (List (List Int)))(ws:List (List Int))(p:Nat):exts (bs.take p) ws <+: exts bs ws:=by
 conv=>rhs;rw[<-List.take_append_drop p bs]
 rw[exts,exts,List.flatMap_append];exact List.prefix_append _ _
theorem cK {bs:List (List (List Int))}{ws:List (List Int)}{p:Nat}(hp:p<bs.length)(q:Nat):exts (bs.take p) ws++(ws.take q).map (fun u=>bs[p]++[u]) <+: exts bs ws:=by
 refine List.IsPrefix.trans ?_ (qXE bs ws (p+1));rw[mX hp];exact List.prefix_append_right_inj _ |>.2 ((List.take_prefix q ws).map _)
theorem jF {ws:List (List Int)}:∀(i:Nat) {b:List (List Int)},b∈chB ws i->b.length=i+1
 | 0,b,h=>by
  obtain⟨u,_,rfl⟩:=List.mem_map.1 h;rfl
 | i+1,b,h=>by
  obtain⟨c,hc,hb⟩:=List.mem_flatMap.1 h
  obtain⟨u,_,rfl⟩:=List.mem_map.1 hb
  rw[List.length_append,jF i hc];rfl
theorem uO (bs:List (List (List Int)))(ws:List (List Int)):(exts bs ws).length=bs.length*ws.length:=by
 induction bs with
 | nil=>simp[exts]
 | cons b bs ih =>
  have:exts (b::bs) ws=(ws.map fun u=>b++[u])++exts bs ws:=rfl;rw[this,List.length_append,ih,List.length_map,List.length_cons,Nat.succ_mul];omega
theorem xCP {ws:List (List Int)}(hw:1<=ws.length):∀i,(chB ws i).length<=(chL ws i).length/\(exts (chB ws i) (ws.drop 1)).length<=(chL ws (i+1)).length:=by
 have step:∀i,(exts (chB ws i) (ws.drop 1)).length<=(chL ws (i+1)).length:=fun i=>by
  rw[chL,List.length_append,uO,uO,List.length_drop];have:=Nat.mul_le_mul_left (chB ws i).length (show ws.length-1<=ws.length by omega);omega
 intro i;refine⟨?_,step i⟩;cases i with
 | zero=>exact Nat.le_refl _
 | succ i=>exact step i
theorem qIK {ws:List (List Int)}(h:2<=ws.length):∀i,1<=(chB ws i).length
 | 0=>by simp[chB];omega
 | i+1=>by
  rw[chB,uO,List.length_drop]
  exact Nat.mul_pos (qIK h i) (by omega)
theorem qDN {B e:Nat}{w:World}{sa:Option Addr}{n sc:Nat}{xs:List Value}(h:RowT B e w (.slice sa n sc) xs)(hp:1<=n):∃b off,sa=some ⟨b,off,none⟩/\n<=sc/\sc<=maxLen:=by
 rcases h with ⟨hn,hn2⟩|⟨b,off,cap,cur,m,hv,hb,hc1,hc2,hblk,hcell⟩
 ·simp only[Value.slice.injEq]at hn;omega
 simp only[Value.slice.injEq]at hv;obtain⟨rfl,rfl,rfl⟩:=hv;exact⟨b,off,rfl,hc1,hc2⟩
structure LUp (e base:Nat)(w:World)(v:Value)(n:Nat)(svs:List Value)(ps:List (List (List Int))):Prop where
 own:w.ownsRow base e 1 v n svs
 rows:wO w.heap.size 9 strs w svs ps
 ne:e≠9
theorem LUp.len {e base n:Nat}{w:World}{v:Value}{a9:List Value}{ps:List (List (List Int))}(h:LUp e base w v n a9 ps):n=ps.length:=by
 have:=h.own.1;have:=h.rows.1;omega
theorem LUp.nil {e:Nat}(he:e≠9)(base:Nat)(w:World):LUp e base w (.slice none 0 0) 0 [] []:=⟨World.ownsRow_nil _ _ _ _,wO.nil,he⟩
theorem LUp.kept {e base n:Nat}{w w':World}{v:Value}{a9:List Value}{ps:List (List (List Int))}{row:Option Nat}(h:LUp e base w v n a9 ps)(hg:w.grownBy w' row)(hr:∀k,row=some k->w.heap.size<=k\/(yC w 9 k/\yC w e k)):LUp e base w' v n a9 ps:=by
 refine⟨h.own.kept hg ?_,(h.rows.kept hg (fun k e=>(hr k e).imp id (·.1))).mono hg.size,h.ne⟩;rcases hv:v.ownBlock with _|k
 ·exact .inl rfl
 refine .inr fun e1=>?_;rcases hr k e1.symm with h1|⟨_,cur,e',m,hb,hn⟩
 ·have:=(h.own.lt k hv).2;omega
 exact zO h.own hb (fun e2=>hn e2.symm) hv
theorem LUp.push {e base n m b2:Nat}{w w1 w':World}{v v' sv:Value}{a9:List Value}{ps:List (List (List Int))}{us:List (List Int)}(h:LUp e base w v n a9 ps)(a7:w.grownBy w1 none)(a6:w1.ownsRow b2 9 1 sv m (strs us))(a8:w'.ownsRow base e 1 v' (n+1) (a9++[sv]))(hg:w1.grownBy w' v.ownBlock):LUp e base w' v' (n+1) (a9++[sv]) (ps++[us])/\w.grownBy w' v.ownBlock:=by
 have h1:=h.kept a7 (by simp);have h0:=zZ h1.own h.ne;refine⟨⟨a8,?_,h.ne⟩,zC (wP a7) hg⟩;have h2:=((h1.rows.snoc (RowT.of_owns a6)).kept hg (fun k e=>.inr (h0 k e))).mono hg.size;exact h2
theorem LUp.ofPats {base n:Nat}{w:World}{v:Value}{a9:List Value}{ps:List (List (List Int))}(h:PatsUp base w v n a9 ps):LUp 65 base w v n a9 ps:=⟨h.own,h.rows,by decide⟩
theorem lA:ElemOk Tryz.prog 100 46 (.slice none 0 0) 24:=⟨Tryz.underlying100,by kernel_rfl,rfl⟩
structure LRead (B:Nat)(w:World)(v:Value)(svs:List Value)(bs:List (List (List Int))):Prop where
 row:RowT B 46 w v svs
 rows:wO B 9 strs w svs bs
theorem LRead.kept {B:Nat}{w w':World}{v:Value}{a9:List Value}{bs:List (List (List Int))}{row:Option Nat}(h:LRead B w v a9 bs)(hg:w.grownBy w' row)(hr:∀k,row=some k->B<=k\/(yC w 46 k/\yC w 9 k)):LRead B w' v a9 bs :=
 ⟨h.row.kept hg (fun k e=>(hr k e).imp id (·.1)),h.rows.kept hg (fun k e=>(hr k e).imp id (·.2))⟩
theorem LRead.at {B b off sc n:Nat}{w:World}{a9:List Value}{bs:List (List (List Int))}(h:LRead B w (.slice (some ⟨b,off,none⟩) n sc) a9 bs)(hn:n=bs.length){p:Nat}(hp:p<n):∃(a:Option Addr) (c:Nat),w.cell? ⟨b,off+p,none⟩=some (.slice a (bs[p]'(by omega)).length c)/\RowT B 9 w (.slice a (bs[p]'(by omega)).length c) (strs (bs[p]'(by omega))):=by
 have hl:=h.rows.1;have h2:=h.rows.2 p (by omega) (by omega);have h0:=h.row.row;rcases h0 with ⟨a0,c0,e,hx⟩|⟨b',off',cap',hv,_,_,_,hra⟩
 ·simp only[Value.slice.injEq]at e;omega
 simp only[Value.slice.injEq,Option.some.injEq,Addr.mk.injEq,and_true]at hv;obtain⟨⟨rfl,rfl⟩,_⟩:=hv;have hc:=hra.2 p (by omega);obtain⟨a,c,e⟩:=h2.row.shape;rw[xC]at e;refine⟨a,c,?_,?_⟩
 ·rw[hc,e]
 rw[<-e];exact h2
theorem LRead.of {base n:Nat}{w:World}{v:Value}{a9:List Value}{bs:List (List (List Int))}(h:LUp 46 base w v n a9 bs):LRead w.heap.size w v a9 bs:=⟨RowT.of_owns h.own,h.rows⟩
theorem qOA (letters k m:Nat)(w:World)(h1:1<=letters)(h6:letters<=6)(hk:k<=8)(a8:m<=4)(hN:(chL (upTo letters (k+1)) (m+1)).length<=1000)(a9:2<=(upTo letters (k+1)).length):Calls Tryz.prog 44 #[.int .i64 letters,.int .i64 k,.int .i64 m] w (uG w (chL (upTo letters (k+1)) (m+1))):=by
 obtain⟨ws,e2⟩:=Nm (upTo letters (k+1));rw[<-e2]at hN a9⊢;have b0:=Kh e2;have g4:=Kh (mC letters k w h1 h6 hk);rw[<-e2]at g4;have j1:1<=ws.length:=by omega
 have k8:ws.length<=1000:=by
  have:=(qCK ws 0 (m+1)).length_le;rw[Nat.zero_add]at this;have e:(chL ws 0).length=ws.length:=by simp[chL]
  omega
 have i8:Hid (∀i,i<=m+1->(chL ws i).length<=1000):=Kh (fun i hi=>by
  have:=(qCK ws i (m+1-i)).length_le;rw[show i+(m+1-i)=m+1 by omega]at this
  omega)
 clear e2 hN;go_enter Tryz.func44,Tryz.ntmps44;go_wp2_with fail;refine g4.out.mono ?_;rintro e w1 ⟨sa,sc,rfl,b3,f4⟩;obtain⟨b,off,rfl,l6,i3⟩:=qI b3 (by omega);have e6:=Kh f4.size;have l4:(1:Int)<sc:=by omega
 have l5:sc<=9223372036854775807:=by unfold maxLen at i3;omega
 clear g4 i3;go_wp2
 go_loopw [8,28] (fun v i wr=>∃(sl:Option Addr) (c j:Nat) (svs:List Value),i=.int .i64 j/\j<=ws.length/\v=.slice sl j c /\
   PatsUp w1.heap.size wr v j svs ([]++((ws.drop 0).take j).map oneB)/\RowT w1.heap.size 9 wr (.slice (some ⟨b,off,none⟩) ws.length sc) (strs ws)/\w.grownBy wr none/\w1.heap.size<=wr.heap.size)
  (fun _ i _=>ws.length-(intOf i).toNat)
 case atStart=>exact⟨_,_,0,_,rfl,Nat.zero_le _,rfl,by simpa using PatsUp.nil _ _,b3,f4,Nat.le_refl _⟩
 clear b3 f4;obtain⟨sl,c,j,svs,rfl,hj,rfl,g8,hT,hg,hs⟩:=hrel;have c6:=Kh g8;clear g8;by_cases hlt:j<ws.length
 ·have b5:(j:Int)<((ws.length:Nat):Int):=by omega
  have h0:wr.cell? ⟨b,off+j,none⟩=some (.string (strOfNums ws[j])):=by
   have:=uR hT (i:=j) (by omega);exact this
  have hu:=rK (letters:=letters) (n:=k+1) (by omega) (u:=ws[j]) (by rw[<-b0.out];exact List.getElem_mem (by omega));obtain⟨u,H5⟩:=Nm (ws[j]);have HU:=Kh H5;rw[<-H5]at hu h0;clear H5;have d3:=c6.out.own.alloc (.cells #[.string (strOfNums u)] 9);go_wp2_with (at_builtin;refine app1 rfl (.tmp 32) (.tmp 36) _ rfl qG w1.heap.size _ j svs rfl d3 _ (by rw[zL];rfl) rfl ?c1 ?c2 ?c3 ?_)
  case c1=>unfold maxLen;omega
  case c2=>omega
  case c3=>rw[zL];have:=hg.size;have:=e6.out;omega
  intro sl' c' w3 H0 a3 _;obtain⟨i0,H2⟩:=c6.out.push (us:=oneB u) (cs:=#[.string (strOfNums u)]) (q:=1) rfl rfl (by unfold maxLen;omega) H0 a3;have j9:=fun q (e:(Value.slice sl j c).ownBlock=some q)=>(c6.out.own.lt q e).1;have e4:=hT.kept H2 (fun q e=>.inr (zZ c6.out.own (by decide) q e));have H9:=zA hg H2 (fun q e=>by have:=j9 q e;have:=e6.out;omega);have l0:=H2.size;have k6:=Kh i0;clear H0 a3 d3 h0 H2 i0 hT;go_wp2;go_roundw
  case rel =>
   refine⟨sl',c',j+1,svs++[Value.slice (some ⟨wr.heap.size,0,none⟩) 1 1],by go_num,by omega,rfl,?_,e4,H9,by omega⟩
   have e7:[]++((ws.drop 0).take (j+1)).map oneB=([]++((ws.drop 0).take j).map oneB)++[oneB u]:=by
    have e9:(ws.drop 0)[j]'(by rw[List.length_drop];omega)=u:=by rw[HU.out];simp
    rw[xQ oneB _ j (by rw[List.length_drop];omega),e9];simp only[List.append_assoc]
   rw[e7];exact k6.out
  simp[intOf];omega
 obtain rfl:j=ws.length:=by omega
 have e8:[]++((ws.drop 0).take (ws.length)).map oneB=[]++(ws.drop 0).map oneB:=by rw[List.take_of_length_le (by rw[List.length_drop];omega)]
 rw[e8]at c6;clear e8 hlt;have f6:=Kh (LUp.ofPats c6.out);rw[List.drop_zero,List.nil_append]at f6;obtain⟨n8,l3⟩:=Nm ws.length;clear c6;go_wp2_with (at_make;refine qZY rfl _ _ _ rfl lA .i64 .i64 _ ws.length rfl rfl ?m1 ?m2 ?m3 ?_)
 case m1=>rfl
 case m2=>omega
 case m3=>unfold maxLen;omega
 intro w3 H0 a3;have e0:=Kh (f6.out.kept a3 (by simp));have g6:Hid (LUp 46 wr.heap.size w3 (.slice (some ⟨wr.heap.size,0,none⟩) 0 ws.length) 0 [] []):=Kh ⟨H0,wO.nil,by decide⟩;have e4:=hT.kept a3 (by simp);have d6:=zA hg a3;have g7:w1.heap.size<=w3.heap.size:=Nat.le_trans hs a3.size;obtain⟨base,H7⟩:=Nm wr.heap.size;have e3:base<=w3.heap.size:=by rw[H7];exact a3.size
 have j0:w.heap.size<=base:=by rw[H7];exact hg.size
 rw[<-H7]at g6⊢;clear H0 a3 hT hg hs f6 H7;go_wp2
 go_loopw [11,44] (fun v i wq=>∃(sb:Option Addr) (cb j:Nat) (svb:List Value),i=.int .i64 j/\j<=ws.length/\v=.slice sb j cb /\
   LUp 46 base wq v j svb ((ws.take j).map oneB)/\LUp 65 w1.heap.size wq (.slice sl ws.length c) ws.length svs (ws.map oneB)/\RowT w1.heap.size 9 wq (.slice (some ⟨b,off,none⟩) ws.length sc) (strs ws)/\w.grownBy wq none/\base<=wq.heap.size/\w1.heap.size<=wq.heap.size)
  (fun _ i _=>ws.length-(intOf i).toNat)
 case atStart=>exact⟨_,_,0,_,rfl,Nat.zero_le _,rfl,by simpa using g6.out,e0.out,e4,d6,e3,g7⟩
 clear g6 e0 e4 d6 e3 g7;obtain⟨sb,cb,j,svb,rfl,hj,rfl,i1,h8,hT,hg,e3,hs⟩:=hrel;obtain⟨wo,rfl⟩:=Nm (wr:World);have b1:=Kh i1;have h3:=Kh h8;clear i1 h8;by_cases hlt:j<ws.length
 ·have b5:(j:Int)<ws.length:=by omega
  have h0:=uR hT hlt;have hu:=rK (letters:=letters) (n:=k+1) (by omega) (u:=ws[j]) (by rw[<-b0.out];exact List.getElem_mem hlt);obtain⟨u,H5⟩:=Nm (ws[j]);have HU:=Kh H5;rw[<-H5]at hu h0;clear H5;have f2:=Ga wo (.cells #[.string (strOfNums u)] 9) none;have d3:=(b1.out.kept f2 (by simp)).own;have d5:=World.ownsRow_lit (e:=9) (size:=1) wo #[.string (strOfNums u)] 1 (Nat.le_refl _) (by unfold maxLen;omega) (by simp);go_wp2_with (at_builtin;refine app1 rfl (.tmp 48) (.tmp 51) _ rfl lA base _ j svb rfl d3 _ (by rw[zL];rfl) rfl ?c1 ?c2 ?c3 ?_)
  case c1=>unfold maxLen;omega
  case c2=>omega
  case c3=>(try rw[zL]);omega
  intro sb' cb' w4 h4 H2 _;obtain⟨g9,H9⟩:=b1.out.push (us:=oneB u) f2 d5 h4 H2;have i4:=fun q (e:(Value.slice sb j cb).ownBlock=some q)=>(b1.out.own.lt q e).1;have H8:=zZ b1.out.own (e':=9) (by decide);have H1:=zZ b1.out.own (e':=65) (by decide);have k1:=hT.kept H9 (fun q e=>.inr (H8 q e));have f9:=Kh (h3.out.kept H9 (fun q e=>.inr ⟨H8 q e,H1 q e⟩));have H4:=zA hg H9 (fun q e=>by have:=i4 q e;omega);have k9:=H9.size;have k5:=Kh g9;clear h4 H2 H9 d3 h0 g9 hT f2 d5 H8 H1 i4;go_wp2;go_roundw
  case rel =>
   refine⟨sb',cb',j+1,svb++[Value.slice (some ⟨wo.heap.size,0,none⟩) 1 1],by go_num,by omega,rfl,?_,f9.out,k1,H4,by omega,by omega⟩;have e9:ws[j]'hlt=u:=HU.out.symm;rw[xQ oneB _ j hlt,e9];exact k5.out
  simp[intOf];omega
 obtain rfl:j=ws.length:=by omega
 rw[List.take_length]at b1;clear hlt;have a6:=Kh (LRead.of b1.out);have b4:ws.length=(chB ws 0).length:=by simp[chB]
 have i5:chL ws 0=ws.map oneB:=rfl;have i6:chB ws 0=ws.map oneB:=rfl;rw[<-i5]at h3;rw[<-i6]at a6;have i7:=Kh b4;clear i5 i6 b1 b4;go_wp2
 go_loopg [8,11,56] (m+1) (fun gh v8 v11 i wx=>∃(q n nb:Nat) (sl:Option Addr) (c:Nat) (svs:List Value) (sb:Option Addr) (cb:Nat) (svb:List Value),gh+q=m+1/\i=.int .i64 q/\v8=.slice sl n c/\v11=.slice sb nb cb /\
   LUp 65 w1.heap.size wx (.slice sl n c) n svs (chL ws q)/\LRead wx.heap.size wx (.slice sb nb cb) svb (chB ws q)/\Hid (nb=(chB ws q).length)/\RowT w1.heap.size 9 wx (.slice (some ⟨b,off,none⟩) ws.length sc) (strs ws)/\w.grownBy wx none/\w1.heap.size<=wx.heap.size)
 case atStart=>exact⟨0,_,_,sl,c,svs,sb,cb,svb,rfl,rfl,rfl,rfl,h3.out,a6.out,i7,hT,hg,hs⟩
 clear h3 a6 i7 hT hg hs e3 j0;obtain⟨q,n,nb,sl,c,svs,sb,cb,svb,i2,rfl,rfl,rfl,h8,h7,b4,hT,hg,hs⟩:=hrel;obtain⟨wo,rfl⟩:=Nm (wr:World);obtain⟨g1,h3,h5⟩:=K3 i2 h8 h7;clear i2 h8 h7;by_cases hq:q<m+1
 ·have l2:(q:Int)<(m:Int)+1:=by omega
  have l1:q<=4:=by omega
  have f0:1<=nb:=by rw[b4.out];exact qIK a9 q
  have a5:=xCP j1 q;have j6:=i8.out q (by omega);have d7:=i8.out (q+1) (by omega);have c7:Hid (∀bb∈chB ws q,bb.length=q+1):=Kh (fun bb h=>jF q h);obtain⟨Bs,d1⟩:=Nm (chB ws q);obtain⟨L0,e5⟩:=Nm (chL ws q);have g3:Hid ((L0++exts Bs ws).length<=1000):=Kh (by rw[e5,d1];exact d7);have k4:Hid ((exts Bs (ws.drop 1)).length<=1000):=Kh (by rw[d1];omega);have j4:nb<=1000:=by rw[b4.out];omega
  have a0:Hid (nb=Bs.length):=Kh (by rw[d1];exact b4.out);have i9:Hid (chB ws (q+1)=exts Bs (ws.drop 1)/\chL ws (q+1)=L0++exts Bs ws):=Kh (by rw[d1,e5];exact⟨rfl,rfl⟩);rw[<-d1]at h5 c7;rw[<-e5]at h3;clear a5 j6 d7 d1 e5 b4;obtain⟨bb,bo,rfl,j8,d8⟩:=qDN h5.out.row f0;have j7:cb<=9223372036854775807:=by unfold maxLen at d8;omega
  have k3:=Kh hs;obtain⟨BB,c0⟩:=Nm wo.heap.size;have l7:w1.heap.size<=BB:=by rw[c0];exact hs
  have a7:BB<=wo.heap.size:=by omega
  rw[<-c0]at h5;have j5:=h3.out.len;clear c0 d8;go_wp2
  go_loopw [8,60] (fun v8 i wx=>∃(p n:Nat) (sl:Option Addr) (c:Nat) (svs:List Value),i=.int .i64 p/\p<=nb/\v8=.slice sl n c /\
    LUp 65 w1.heap.size wx (.slice sl n c) n svs (L0++exts (Bs.take p) ws)/\LRead BB wx (.slice (some ⟨bb,bo,none⟩) nb cb) svb Bs/\RowT w1.heap.size 9 wx (.slice (some ⟨b,off,none⟩) ws.length sc) (strs ws)/\w.grownBy wx none/\BB<=wx.heap.size)
   (fun _ i _=>nb-(intOf i).toNat)
  case atStart=>exact⟨0,n,sl,c,svs,rfl,Nat.zero_le _,rfl,by simpa [exts] using h3.out,h5.out,hT,hg,a7⟩
  clear h3 h5 hT hg hs a7 j5 k3;obtain⟨p,n,sl,c,svs,rfl,hp,rfl,h8,h7,hT,hg,a7⟩:=hrel;obtain⟨wo,rfl⟩:=Nm (wr:World);have h3:=Kh h8;have h5:=Kh h7;clear h8 h7;by_cases hlt:p<nb
  ·have b5:(p:Int)<(nb:Int):=by omega
   have a2:p<Bs.length:=(by rw[<-a0.out];exact hlt);obtain⟨ra,rc,b9,H3⟩:=h5.out.at a0.out hlt;have d4:=c7.out _ (List.getElem_mem a2);obtain⟨bl,a5⟩:=Nm (Bs[p]'a2);have a6:=Kh a5;rw[<-a5]at b9 H3 d4;obtain⟨bn,b8⟩:=Nm bl.length;rw[<-b8]at b9 H3;have g5:=Kh b8;have b7:bl.length<=100:=by omega
   clear a5 b8 d4;go_wp2
   go_loopw [8,66] (fun v8 i wx=>∃(r n:Nat) (sl:Option Addr) (c:Nat) (svs:List Value),i=.int .i64 r/\r<=ws.length/\v8=.slice sl n c /\
     LUp 65 w1.heap.size wx (.slice sl n c) n svs (L0++exts (Bs.take p) ws++(ws.take r).map (fun u=>bl++[u]))/\LRead BB wx (.slice (some ⟨bb,bo,none⟩) nb cb) svb Bs/\RowT BB 9 wx (.slice ra bn rc) (strs bl)/\RowT w1.heap.size 9 wx (.slice (some ⟨b,off,none⟩) ws.length sc) (strs ws)/\w.grownBy wx none/\BB<=wx.heap.size)
    (fun _ i _=>ws.length-(intOf i).toNat)
   case atStart=>exact⟨0,n,sl,c,svs,rfl,Nat.zero_le _,rfl,by simpa using h3.out,h5.out,H3,hT,hg,a7⟩
   clear h3 h5 hT hg a7 H3 b9;obtain⟨r,n,sl,c,svs,rfl,hr,rfl,h8,h7,H3,hT,hg,a7⟩:=hrel;obtain⟨wo,rfl⟩:=Nm (wr:World);have h3:=Kh h8;have h5:=Kh h7
   have j3:n<=1000:=by
    have h1:=h8.len
    have h2:(L0++exts (Bs.take p) ws++(ws.take r).map (fun u=>bl++[u])).length<=(L0++exts Bs ws).length:=by
     have e1:(L0++exts Bs ws).length=L0.length+(exts Bs ws).length:=List.length_append;rw[List.append_assoc,List.length_append,e1];have:=(cK (ws:=ws) a2 r).length_le;rw[<-a6.out]at this;omega
    have:=g3.out;omega
   clear h8 h7;by_cases h7:r<ws.length
   ·have f1:(r:Int)<ws.length:=by omega
    have h0:=uR hT h7;obtain⟨u,H5⟩:=Nm (ws[r]);have HU:=Kh H5;rw[<-H5]at h0;clear H5;have a4:=fD BB wo (.slice ra bn rc) bl u H3.row b7;unfold eE at a4;rw[<-g5.out]at a4;have g2:=Kh a4;clear a4;go_wp2_with fail;refine g2.out.mono ?_;rintro e w4 ⟨s4,c4,rfl,h4,H2⟩;have d9:=h3.out.kept H2 (by simp);go_wp2_with (at_builtin;refine app1 rfl (.tmp 70) (.tmp 75) _ rfl qG w1.heap.size _ n svs rfl d9.own _ rfl rfl ?c1 ?c2 ?c3 ?_)
    case c1=>unfold maxLen;omega
    case c2=>omega
    case c3=>have:=H2.size;omega
    intro sl5 c5 w5 h9 H9 _;obtain⟨d2,H4⟩:=h3.out.push (us:=bl++[u]) H2 h4 h9 H9;have d0:=fun q (e:(Value.slice sl n c).ownBlock=some q)=>(h3.out.own.lt q e).1;have H8:=zZ h3.out.own (e':=9) (by decide);have H1:=zZ h3.out.own (e':=46) (by decide);have f5:=hT.kept H4 (fun q e=>.inr (H8 q e));have b6:=H3.kept H4 (fun q e=>.inr (H8 q e));have c8:=Kh (h5.out.kept H4 (fun q e=>.inr ⟨H1 q e,H8 q e⟩));have f3:=zA hg H4 (fun q e=>by have:=d0 q e;have:=e6.out;omega);have j2:=H4.size;have f7:=Kh d2;clear h4 h9 H2 H9 H4 d9 h0 d2 hT H3 H8 H1 d0;go_wp2;go_roundw
    case rel =>
     refine⟨r+1,n+1,sl5,c5,svs++[Value.slice s4 (bn+1) c4],by go_num,by omega,rfl,?_,c8.out,b6,f5,f3,by omega⟩;have e9:ws[r]'h7=u:=HU.out.symm;rw[xQ (fun u=>bl++[u]) _ r h7,e9,<-List.append_assoc];exact f7.out
    simp[intOf];omega
   obtain rfl:r=ws.length:=by omega
   rw[List.take_length,List.append_assoc,a6.out,<-mX a2]at h3;go_wp2;go_roundw
   case rel=>exact⟨p+1,n,sl,c,svs,by go_num,by omega,rfl,h3.out,h5.out,hT,hg,a7⟩
   simp[intOf];omega
  obtain rfl:p=nb:=by omega
  rw[a0.out,List.take_length,<-i9.out.2]at h3;obtain⟨b2,k0⟩:=Nm wo.heap.size;have H6:b2<=wo.heap.size:=by omega
  have k2:BB<=b2:=by omega
  clear k0 a7 hlt;go_wp2
  go_loopw [18,81] (fun v18 i wx=>∃(x nl:Nat) (sg:Option Addr) (cg:Nat) (svg:List Value),i=.int .i64 x/\x<=p/\v18=.slice sg nl cg /\
    LUp 46 b2 wx (.slice sg nl cg) nl svg (exts (Bs.take x) (ws.drop 1))/\LUp 65 w1.heap.size wx (.slice sl n c) n svs (chL ws (q+1))/\LRead BB wx (.slice (some ⟨bb,bo,none⟩) p cb) svb Bs/\RowT w1.heap.size 9 wx (.slice (some ⟨b,off,none⟩) ws.length sc) (strs ws)/\w.grownBy wx none/\b2<=wx.heap.size)
   (fun _ i _=>p-(intOf i).toNat)
  case atStart=>exact⟨0,0,none,0,[],rfl,Nat.zero_le _,rfl,LUp.nil (by decide) _ _,h3.out,h5.out,hT,hg,H6⟩
  clear h3 h5 hT hg H6;obtain⟨x,nl,sg,cg,svg,rfl,hx,rfl,c9,h8,h7,hT,hg,H6⟩:=hrel;obtain⟨wo,rfl⟩:=Nm (wr:World);obtain⟨a1,h3,h5⟩:=K3 c9 h8 h7;clear c9 h8 h7;by_cases hlt:x<p
  ·have b5:(x:Int)<(p:Int):=by omega
   have a2:x<Bs.length:=(by rw[<-a0.out];exact hlt);obtain⟨ra,rc,b9,H3⟩:=h5.out.at a0.out hlt;have d4:=c7.out _ (List.getElem_mem a2);obtain⟨bl,a5⟩:=Nm (Bs[x]'a2);have a6:=Kh a5;rw[<-a5]at b9 H3 d4;obtain⟨bn,b8⟩:=Nm bl.length;rw[<-b8]at b9 H3;have g5:=Kh b8;have b7:bl.length<=100:=by omega
   clear a5 b8 d4;go_wp2
   go_loopw [18,88] (fun v18 i wx=>∃(r nl:Nat) (sg:Option Addr) (cg:Nat) (svg:List Value),i=.int .i64 r/\r<=ws.length-1/\v18=.slice sg nl cg /\
     LUp 46 b2 wx (.slice sg nl cg) nl svg (exts (Bs.take x) (ws.drop 1)++((ws.drop 1).take r).map (fun u=>bl++[u]))/\LUp 65 w1.heap.size wx (.slice sl n c) n svs (chL ws (q+1))/\LRead BB wx (.slice (some ⟨bb,bo,none⟩) p cb) svb Bs/\RowT BB 9 wx (.slice ra bn rc) (strs bl)/\RowT w1.heap.size 9 wx (.slice (some ⟨b,off,none⟩) ws.length sc) (strs ws)/\w.grownBy wx none/\b2<=wx.heap.size)
    (fun _ i _=>ws.length-1-(intOf i).toNat)
   case atStart=>exact⟨0,nl,sg,cg,svg,rfl,Nat.zero_le _,rfl,by simpa using a1.out,h3.out,h5.out,H3,hT,hg,H6⟩
   clear a1 h3 h5 hT hg H6 H3 b9;obtain⟨r,nl,sg,cg,svg,rfl,hr,rfl,c9,h8,h7,H3,hT,hg,H6⟩:=hrel;obtain⟨wo,rfl⟩:=Nm (wr:World);obtain⟨a1,h3,h5⟩:=K3 c9 h8 h7
   have j3:nl<=1000:=by
    have h1:=c9.len;have:=(cK (ws:=ws.drop 1) a2 r).length_le;rw[<-a6.out]at this;have:=k4.out;omega
   clear c9 h8 h7;by_cases h7:r<ws.length-1
   ·have f1:(r:Int)<((ws.length-1:Nat):Int):=by omega
    have h0:wo.cell? ⟨b,off+1+r,none⟩=some (.string (strOfNums (ws[1+r]'(by omega)))):=by
     have:=uR hT (i:=1+r) (by omega)
     rwa [<-Nat.add_assoc]at this
    obtain⟨u,H5⟩:=Nm (ws[1+r]'(by omega));have HU:=Kh H5;rw[<-H5]at h0;clear H5;have a4:=fD BB wo (.slice ra bn rc) bl u H3.row b7;unfold eE at a4;rw[<-g5.out]at a4;have g2:=Kh a4;clear a4;go_wp2_with fail;refine g2.out.mono ?_;rintro e w4 ⟨s4,c4,rfl,h4,H2⟩;have d9:=a1.out.kept H2 (by simp);go_wp2_with (at_builtin;refine app1 rfl (.tmp 92) (.tmp 96) _ rfl lA b2 _ nl svg rfl d9.own _ rfl rfl ?c1 ?c2 ?c3 ?_)
    case c1=>unfold maxLen;omega
    case c2=>omega
    case c3=>have:=H2.size;omega
    intro sl5 c5 w5 h9 H9 _;obtain⟨d2,H4⟩:=a1.out.push (us:=bl++[u]) H2 h4 h9 H9;have d0:=fun q (e:(Value.slice sg nl cg).ownBlock=some q)=>(a1.out.own.lt q e).1;have H8:=zZ a1.out.own (e':=9) (by decide);have H1:=zZ a1.out.own (e':=65) (by decide);have f5:=hT.kept H4 (fun q e=>.inr (H8 q e));have b6:=H3.kept H4 (fun q e=>.inr (H8 q e));have f8:=Kh (h3.out.kept H4 (fun q e=>.inr ⟨H8 q e,H1 q e⟩));have c8:=Kh (h5.out.kept H4 (fun q e=>.inl (by have:=d0 q e;omega)));have f3:=zA hg H4 (fun q e=>by have:=d0 q e;have:=e6.out;omega);have j2:=H4.size;have f7:=Kh d2;clear h4 h9 H2 H9 H4 d9 h0 d2 hT H3 H8 H1 d0;go_wp2;go_roundw
    case rel =>
     refine⟨r+1,nl+1,sl5,c5,svg++[Value.slice s4 (bn+1) c4],by go_num,by omega,rfl,?_,f8.out,c8.out,b6,f5,f3,by omega⟩;have e9:(ws.drop 1)[r]'(by rw[List.length_drop];omega)=u:=by rw[HU.out];simp[Nat.add_comm]
     rw[xQ (fun u=>bl++[u]) _ r (by rw[List.length_drop];omega),e9,<-List.append_assoc];exact f7.out
    simp[intOf];omega
   obtain rfl:r=ws.length-1:=by omega
   rw[List.take_of_length_le (l:=ws.drop 1) (by rw[List.length_drop];omega),a6.out,<-mX a2]at a1;go_wp2;go_roundw
   case rel=>exact⟨x+1,nl,sg,cg,svg,by go_num,by omega,rfl,a1.out,h3.out,h5.out,hT,hg,H6⟩
   simp[intOf];omega
  obtain rfl:x=p:=by omega
  rw[a0.out,List.take_length,<-i9.out.1]at a1;have g0:=Kh (LRead.of a1.out);have k7:=Kh a1.out.len;clear hlt;go_wp2;go_roundg (m+1-(q+1))
  case measure=>have:=g1.out;omega
  exact⟨q+1,n,nl,sl,c,svs,sg,cg,svg,by have:=g1.out;omega,by go_num,rfl,rfl,h3.out,g0.out,k7,hT,hg,by omega⟩
 obtain rfl:q=m+1:=by have:=g1.out;omega
 have hl:=h3.out.len;go_wp2;go_ret;exact⟨sl,c,svs,by rw[<-hl];rfl,by rw[<-hl];exact RowT.of_owns h3.out.own,h3.out.rows,hg⟩
def cnt (letters:Nat):Nat->Int×Int
 | 0=>(0,1)
 | r+1=>(min ((cnt letters r).1+(cnt letters r).2) 900,min ((cnt letters r).2*letters) 900)
theorem qFT (letters:Nat):∀r,0<=(cnt letters r).1/\(cnt letters r).1<=900/\0<=(cnt letters r).2/\(cnt letters r).2<=900
 | 0=>by simp[cnt]
 | r+1=>by
  have h:=qFT letters r
  have h2:0<=(cnt letters r).2*(letters:Int):=Int.mul_nonneg h.2.2.1 (by omega)
  simp only[cnt];omega
theorem lZ (n:Int)(w:World):Calls Tryz.prog 61 #[.int .i64 n] w fun e w'=>e=.returned (.int .i64 (min n 900))/\w=w':=by
 go_enter Tryz.func61,Tryz.ntmps61;go_wp2
 all_goals (go_ret;exact⟨yA (by omega),rfl⟩)
theorem qFQ (letters:Nat)(k:Int)(w:World)(h6:letters<=6)(hk:-1<=k)(a9:k<=8):Calls Tryz.prog 60 #[.int .i64 letters,.int .i64 k] w fun e w'=>e=.returned (.int .i64 (cnt letters (k+1).toNat).1)/\w=w':=by
 obtain⟨r,hr⟩:∃r:Nat,k+1=r:=⟨(k+1).toNat,by omega⟩;have h0:r<=9:=by omega
 have HR:=Kh hr;have e0:(k+1).toNat=r:=by omega
 rw[e0];obtain rfl:k=(r:Int)-1:=by omega
 clear e0 hr;go_enter Tryz.func60,Tryz.ntmps60;go_wp2
 go_loop [5,6,9] (fun t p i=>∃n:Nat,n<=r/\i=.int .i64 n/\t=.int .i64 (cnt letters n).1/\p=.int .i64 (cnt letters n).2) (fun _ _ i=>r-(intOf i).toNat)
 case atStart=>exact⟨0,Nat.zero_le _,rfl,rfl,rfl⟩
 obtain⟨n,hn,rfl,rfl,rfl⟩:=hrel;have hb:=qFT letters n;obtain⟨t,ht⟩:=Nm ((cnt letters n).1);obtain⟨p,hp⟩:=Nm ((cnt letters n).2);rw[<-ht,<-hp]at hb⊢;have h1:cnt letters (n+1)=(min (t+p) 900,min (p*letters) 900):=by rw[ht,hp];rfl
 obtain⟨HT,HP,H1⟩:=K3 ht hp h1;obtain⟨b1,b2,b3,b4⟩:=hb;have h3:0<=p*(letters:Int):=Int.mul_nonneg b3 (by omega)
 have h2:p*(letters:Int)<=5400:=by
  have:=Int.mul_le_mul b4 (show (letters:Int)<=6 by omega) (by omega) (by omega);omega
 clear ht hp h1;by_cases hlt:n<r
 ·go_wp2_with fail
  refine(lZ _ _).mono ?_;rintro e w' ⟨rfl,rfl⟩;go_wp2_with fail;refine(lZ _ _).mono ?_;rintro e w' ⟨rfl,rfl⟩;go_wp2
  go_round
  case rel=>exact⟨n+1,by omega,by go_num,by rw[H1.out],by rw[H1.out]⟩
  simp[intOf];omega
 go_wp2;go_ret;obtain rfl:n=r:=by omega
 exact⟨by rw[<-HT.out];rfl,rfl⟩
def chn (ne:Int):Nat->Int×Int
 | 0=>(ne+1,(ne+1)*(ne+1))
 | r+1=>(min ((chn ne r).1+(chn ne r).2) 900,min (chn ne r).2 900*ne)
theorem qLB (ne:Int)(h:0<=ne)(h9:ne<=900):∀r,0<=(chn ne r).1/\(chn ne r).1<=901/\0<=(chn ne r).2/\(chn ne r).2<=811801
 | 0=>by
  have h2:(ne+1)*(ne+1)<=901*901:=Int.mul_le_mul (by omega) (by omega) (by omega) (by omega)
  have h3:0<=(ne+1)*(ne+1):=Int.mul_nonneg (by omega) (by omega)
  simp only[chn];omega
 | r+1=>by
  have hb:=qLB ne h h9 r
  have h2:min (chn ne r).2 900*ne<=900*900:=Int.mul_le_mul (by omega) h9 h (by omega)
  have h3:0<=min (chn ne r).2 900*ne:=Int.mul_nonneg (by omega) h
  simp only[chn];omega
def eR (kind:Int)(letters:Nat)(k m:Int):Int :=
 let ne:=(cnt letters (k+1).toNat).1-1
 let sh:=(cnt letters k.toNat).1
 if kind=1 then ne+1 else if kind=2\/kind=3 then sh+ne else if kind=4 then sh+2*ne else if kind=5 then sh+3*ne else if kind=6 then ne else (chn ne (m+1).toNat).1
theorem xAN (letters r:Nat):1<=(cnt letters (r+1)).1:=by
 induction r with
 | zero=>show (1:Int)<=min (0+1) 900;decide
 | succ r ih =>
  have:=qFT letters (r+1);rw[cnt];simp only;omega
theorem qUM (kind:Int)(letters:Nat)(k m:Int)(w:World)(h1:1<=kind)(h7:kind<=7)(h6:letters<=6)(hk:0<=k)(a9:k<=8)(hm:0<=m)(a8:m<=4):Calls Tryz.prog 42 #[.int .i64 kind,.int .i64 letters,.int .i64 k,.int .i64 m] w fun e w'=>e=.returned (.int .i64 (eR kind letters k m))/\w=w':=by
 have h5:=qFT letters (k+1).toNat;have h4:=qFT letters k.toNat
 have hp:1<=(cnt letters (k+1).toNat).1:=by
  rw[show (k+1).toNat=k.toNat+1 by omega];exact xAN _ _
 have c1:=fun w=>qFQ letters k w h6 (by omega) a9;have c2:=fun w=>qFQ letters (k-1) w h6 (by omega) (by omega);rw[show k-1+1=k by omega]at c2
 have hz:∀a b,(cnt letters (k+1).toNat).1=a->(cnt letters k.toNat).1=b->eR kind letters k m=if kind=1 then a-1+1 else if kind=2\/kind=3 then b+(a-1) else if kind=4 then b+2*(a-1) else if kind=5 then b+3*(a-1) else if kind=6 then a-1 else (chn (a-1) (m+1).toNat).1:=by
  intro a b h h';unfold eR;rw[h,h']
 generalize (cnt letters (k+1).toNat).1=a at *
 generalize (cnt letters k.toNat).1=b at *
 have hz:=hz a b rfl rfl;obtain⟨a1,a2,_,_⟩:=h5;obtain⟨b1,b2,_,_⟩:=h4;obtain⟨C1,C2,HZ⟩:=K3 c1 c2 hz;clear c1 c2 hz;have h3:kind=1\/kind=2\/kind=3\/kind=4\/kind=5\/kind=6\/kind=7:=by omega
 rcases h3 with rfl|rfl|rfl|rfl|rfl|rfl|rfl
 case inr.inr.inr.inr.inr.inr =>
  obtain⟨q,rfl⟩:∃q:Nat,m=q:=⟨m.toNat,by omega⟩;obtain⟨ne,rfl⟩:∃ne,a=ne+1:=⟨a-1,by omega⟩;have h2:0<=(ne+1)*(ne+1):=Int.mul_nonneg (by omega) (by omega);have h0:(ne+1)*(ne+1)<=901*901:=Int.mul_le_mul (by omega) (by omega) (by omega) (by omega);go_enter Tryz.func42,Tryz.ntmps42;go_wp2_with fail;refine(C1.out _).mono ?_;rintro e w' ⟨rfl,rfl⟩;go_wp2_with fail;refine(C2.out _).mono ?_;rintro e w' ⟨rfl,rfl⟩;go_wp2
  go_loop [11,12,56] (fun t p i=>∃n:Nat,n<=q+1/\i=.int .i64 n/\t=.int .i64 (chn ne n).1/\p=.int .i64 (chn ne n).2) (fun _ _ i=>q+1-(intOf i).toNat)
  case atStart=>exact⟨0,Nat.zero_le _,rfl,rfl,rfl⟩
  obtain⟨n,hn,rfl,rfl,rfl⟩:=hrel;have hb:=qLB ne (by omega) (by omega) n;obtain⟨t,ht⟩:=Nm ((chn ne n).1);obtain⟨p,hp⟩:=Nm ((chn ne n).2);rw[<-ht,<-hp]at hb⊢;have h1:chn ne (n+1)=(min (t+p) 900,min p 900*ne):=by rw[ht,hp];rfl
  obtain⟨HT,HP,H1⟩:=K3 ht hp h1;obtain⟨b1,b2,b3,b4⟩:=hb;have h9:0<=min p 900*ne:=Int.mul_nonneg (by omega) (by omega);have h8:min p 900*ne<=900*900:=Int.mul_le_mul (by omega) (by omega) (by omega) (by omega);clear ht hp h1 h2 h0;by_cases hlt:n<q+1
  ·go_wp2_with fail
   refine(lZ _ _).mono ?_;rintro e w' ⟨rfl,rfl⟩;go_wp2_with fail;refine(lZ _ _).mono ?_;rintro e w' ⟨rfl,rfl⟩;go_wp2
   go_round
   case rel=>exact⟨n+1,by omega,by go_num,by rw[H1.out],by rw[H1.out]⟩
   simp[intOf];omega
  go_wp2;go_ret;obtain rfl:n=q+1:=by omega
  exact⟨yA (by first|exact HT.out|(rw[HZ.out];simp only[Int.reduceEq,if_false,or_self,show ne+1-1=ne by omega,show ((q:Int)+1).toNat=q+1 by omega];exact HT.out)),rfl⟩
 all_goals
  go_enter Tryz.func42,Tryz.ntmps42;go_wp2_with fail;refine(C1.out _).mono ?_;rintro e w' ⟨rfl,rfl⟩;go_wp2_with fail;refine(C2.out _).mono ?_;rintro e w' ⟨rfl,rfl⟩;go_wp2;go_ret;exact⟨yA (by rw[HZ.out];simp),rfl⟩
def tZ (kind letters k m:Int):Bool :=
 decide (1<=kind/\kind<=7/\1<=letters/\letters<=6/\(if kind=1 then 0 else 1)<=k/\k<=8/\(if kind=7 then 0<=m/\m<=4 else m=0))
theorem bN (kind letters k m:Int)(w:World):Calls Tryz.prog 41 #[.int .i64 kind,.int .i64 letters,.int .i64 k,.int .i64 m] w fun e w'=>e=.returned (.bool (tZ kind letters k m))/\w=w':=by
 by_cases h1:kind=1
 ·subst h1
  go_enter Tryz.func41,Tryz.ntmps41;go_wp2
  all_goals (go_ret;refine⟨zW ?_,rfl⟩;unfold tZ;first|(symm;rw[decide_eq_false_iff_not];simp;omega)|(rw[eq_comm,Bool.eq_iff_iff];simp;omega))
 by_cases h7:kind=7
 ·subst h7
  go_enter Tryz.func41,Tryz.ntmps41;go_wp2
  all_goals (go_ret;refine⟨zW ?_,rfl⟩;unfold tZ;first|(symm;rw[decide_eq_false_iff_not];simp;omega)|(rw[eq_comm,Bool.eq_iff_iff];simp;omega))
 have h2:(kind == 1)=false:=by simpa using h1
 have h0:(kind == 7)=false:=by simpa using h7
 have H1:=Kh h1;have H7:=Kh h7;clear h1 h7;go_enter Tryz.func41,Tryz.ntmps41;go_wp2
 all_goals (go_ret;refine⟨zW ?_,rfl⟩;unfold tZ;simp only[if_neg H1.out,if_neg H7.out];first|(symm;rw[decide_eq_false_iff_not];omega)|(rw[eq_comm,Bool.eq_iff_iff];simp;omega))
end Go.Proofs.YtcoimliafiammaaGreat
namespace Go.Proofs.YtcoimliafiammaaGreat
def xM (letters k:Nat):List (List Int):=upTo letters (k+1)
def famP (kind:Int)(letters k m:Nat):List (List (List Int)) :=
 let W:=xM letters k
 let S:=upTo letters k
 if kind=1 then W.map oneB else if kind=2 then S.map oneB++(W.drop 1).map preB else if kind=3 then S.map oneB++(W.drop 1).map sufB
 else if kind=4 then S.map oneB++(W.drop 1).map sufB++(W.drop 1).map preB else if kind=5 then S.map oneB++(W.drop 1).map sufB++(W.drop 1).map preB++(W.drop 1).map facB
 else if kind=6 then (W.drop 1).map wY else chL W (m+1)
theorem qZX (a b:Int)(ha:0<=a)(hb:0<=b):min (min a 900+min b 900) 900=min (a+b) 900:=by omega
theorem qZW (b:Nat)(L:Nat)(h:1<=L):min (min (b:Int) 900*L) 900=min ((b*L:Nat):Int) 900:=by
 rcases Nat.lt_or_ge b 900 with hb|hb
 ·rw[Int.min_eq_left (a:=(b:Int)) (by omega),Int.natCast_mul]
 have h2:b*1<=b*L:=Nat.mul_le_mul_left _ h;rw[Int.min_eq_right (a:=(b:Int)) (by omega)];obtain⟨P,hP⟩:=Nm (b*L);rw[<-hP]at h2⊢;omega
theorem qSX (letters:Nat)(h:1<=letters):∀r,(cnt letters r).1=min ((upTo letters r).length:Int) 900/\(cnt letters r).2=min ((letters ^ r:Nat):Int) 900
 | 0=>by simp only[cnt,upTo,List.range_zero,List.flatMap_nil,List.length_nil,Nat.pow_zero];decide
 | r+1=>by
  obtain⟨h1,h2⟩:=qSX letters h r
  rw[cnt]
  simp only
  rw[h1,h2]
  refine⟨?_,?_⟩
  ·rw[qZX _ _ (by omega) (by omega),xP,List.length_append,uF];push_cast;rfl
  ·rw[qZW _ _ h,Nat.pow_succ]
theorem qTC (ws:List (List Int))(i:Nat):(chL ws (i+1)).length=(chL ws i).length+(chB ws i).length*ws.length:=by rw[chL,List.length_append,uO]
theorem xAO (ws:List (List Int))(i:Nat):(chB ws (i+1)).length=(chB ws i).length*(ws.length-1):=by rw[chB,uO,List.length_drop]
theorem qYS {ws:List (List Int)}(hw:1<=ws.length)(h9:ws.length<=900):∀r,((chn ((ws.length:Int)-1) r).1=((chL ws r).length:Int)/\(chn ((ws.length:Int)-1) r).2=(((chB ws r).length*ws.length:Nat):Int))\/((chn ((ws.length:Int)-1) r).1=900/\900<=(chL ws r).length)
 | 0=>by
  refine .inl ⟨?_,?_⟩
  ·simp[chn,chL]
  ·rw[chn]
   simp only[chB,List.length_map]
   rw[show (ws.length:Int)-1+1=ws.length by omega];push_cast;rfl
 | r+1=>by
  have hb:=qLB ((ws.length:Int)-1) (by omega) (by omega) r
  rw[chn]
  simp only
  rcases qYS hw h9 r with ⟨e1,e2⟩|⟨e1,e2⟩
  ·rw[e1,e2,qTC,xAO]
   obtain⟨P,hP⟩:=Nm ((chB ws r).length*ws.length)
   rw[<-hP]
   rcases Nat.lt_or_ge ((chL ws r).length+P) 900 with h|h
   ·refine .inl ⟨by omega,?_⟩
    rw[Int.min_eq_left (by omega)]
    have e3:(chB ws r).length*(ws.length-1)*ws.length=P*(ws.length-1):=by rw[hP,Nat.mul_assoc,Nat.mul_assoc,Nat.mul_comm (ws.length-1)]
    rw[e3]
    have e4:(ws.length:Int)-1=((ws.length-1:Nat):Int):=by omega
    rw[e4];push_cast;rfl
   ·exact .inr ⟨by omega,by omega⟩
  ·refine .inr ⟨by omega,?_⟩
   rw[qTC];omega
theorem qTB (ne:Int)(h:0<=ne)(h9:ne<=900)(h3:300<=ne):∀r,300<(chn ne r).1
 | 0=>by simp only[chn];omega
 | r+1=>by
  have:=qTB ne h h9 h3 r
  have hb:=qLB ne h h9 r
  rw[chn];simp only;omega
theorem qPG {kind:Int}{letters k m:Nat}(h1:1<=kind)(h7:kind<=7)(hl:1<=letters)(hk:kind≠1->1<=k):(300<eR kind letters k m↔300<(famP kind letters k m).length):=by
 obtain⟨c1,_⟩:=qSX letters hl (k+1);obtain⟨c2,_⟩:=qSX letters hl k;have e1:(((k:Nat):Int)+1).toNat=k+1:=by omega
 have e2:((k:Nat):Int).toNat=k:=by omega
 have e3:(((m:Nat):Int)+1).toNat=m+1:=by omega
 have hw:1<=(xM letters k).length:=fQ hl;have hS:(upTo letters k).length<=(xM letters k).length:=by rw[xM,xP,List.length_append];omega
 unfold eR famP;simp only;rw[e1,e2,e3,c1,c2]
 change 1<=(xM letters k).length at hw
 rw[show upTo letters (k+1)=xM letters k from rfl];obtain⟨W,hW⟩:=Nm (xM letters k);rw[<-hW]at hw hS⊢;by_cases k1:kind=1
 ·rw[if_pos k1,if_pos k1,List.length_map];omega
 rw[if_neg k1,if_neg k1];by_cases k2:kind=2
 ·rw[if_pos (.inl k2),if_pos k2];simp only[List.length_append,List.length_map,List.length_drop];omega
 by_cases k3:kind=3
 ·rw[if_pos (.inr k3),if_neg k2,if_pos k3];simp only[List.length_append,List.length_map,List.length_drop];omega
 rw[if_neg (by omega),if_neg k2,if_neg k3];by_cases k4:kind=4
 ·rw[if_pos k4,if_pos k4];simp only[List.length_append,List.length_map,List.length_drop];omega
 rw[if_neg k4,if_neg k4];by_cases k5:kind=5
 ·rw[if_pos k5,if_pos k5];simp only[List.length_append,List.length_map,List.length_drop];omega
 rw[if_neg k5,if_neg k5];by_cases k6:kind=6
 ·rw[if_pos k6,if_pos k6];simp only[List.length_map,List.length_drop];omega
 rw[if_neg k6,if_neg k6];rcases Nat.lt_or_ge W.length 900 with h9|h9
 ·rw[Int.min_eq_left (by omega)]
  rcases qYS (ws:=W) hw (by omega) (m+1) with ⟨e,_⟩|⟨e,e'⟩
  ·rw[e];omega
  rw[e];omega
 rw[Int.min_eq_right (by omega)];have hb:=qTB 899 (by omega) (by omega) (by omega) (m+1);have hp:=(qCK W 0 (m+1)).length_le;rw[Nat.zero_add]at hp;have e:(chL W 0).length=W.length:=by simp[chL]
 have:(900:Int)-1=899:=by decide
 rw[this];omega
open Go.RowKit
def famE (kind letters k m:Int):Int:=if tZ kind letters k m=false then 1 else if kind=6/\8<k+2\/300<eR kind letters.toNat k m then 3 else 0
def famL (kind letters k m:Int):List (List (List Int)):=if famE kind letters k m=0 then famP kind letters.toNat k.toNat m.toNat else []
def sW (w:World)(er:Int)(ps:List (List (List Int)))(e:Ending)(w':World):Prop :=
 ∃(sa:Option Addr) (sc:Nat) (svs:List Value),e=.returned (.tuple #[.slice sa ps.length sc,.int .i64 er])/\RowT w'.heap.size 65 w' (.slice sa ps.length sc) svs/\wO w'.heap.size 9 strs w' svs ps/\w.grownBy w' none
theorem sW.nil {w w':World}{er:Int}(hg:w.grownBy w' none):sW w er [] (.returned (.tuple #[.slice none 0 0,.int .i64 er])) w':=⟨none,0,[],rfl,.inl ⟨rfl,rfl⟩,wO.nil,hg⟩
theorem xCK (l k m:Nat):[]++((upTo l (k+1)).drop 0).map oneB=famP 1 l k m:=rfl
theorem xCJ (l k m:Nat):([]++((upTo l (k+1)).drop 0).map oneB)++((upTo l (k+1+1)).drop 1).map preB=famP 2 l (k+1) m:=rfl
theorem xCI (l k m:Nat):([]++((upTo l (k+1)).drop 0).map oneB)++((upTo l (k+1+1)).drop 1).map sufB=famP 3 l (k+1) m:=rfl
theorem xCH (l k m:Nat):(([]++((upTo l (k+1)).drop 0).map oneB)++((upTo l (k+1+1)).drop 1).map sufB)++((upTo l (k+1+1)).drop 1).map preB=famP 4 l (k+1) m:=rfl
theorem xCG (l k m:Nat):((([]++((upTo l (k+1)).drop 0).map oneB)++((upTo l (k+1+1)).drop 1).map sufB)++((upTo l (k+1+1)).drop 1).map preB)++((upTo l (k+1+1)).drop 1).map facB=famP 5 l (k+1) m:=rfl
theorem xCF (l k m:Nat):((upTo l (k+1)).drop 1).map wY=famP 6 l k m:=rfl
theorem qYP (l k m:Nat):chL (upTo l (k+1)) (m+1)=famP 7 l k m:=rfl
theorem qHY (kind letters k m:Int)(w:World):Calls Tryz.prog 23 #[.int .i64 kind,.int .i64 letters,.int .i64 k,.int .i64 m] w (sW w (famE kind letters k m) (famL kind letters k m)):=by
 have h4:=Kh (bN kind letters k m w);cases ho:tZ kind letters k m with
 | false =>
  have e1:famE kind letters k m=1:=by rw[famE,if_pos ho]
  have e2:famL kind letters k m=[]:=by rw[famL,e1];rfl
  rw[e1,e2];rw[ho]at h4;clear e1 e2 ho;go_enter Tryz.func23,Tryz.ntmps23;go_wp2_with fail;refine h4.out.mono ?_;rintro e w ⟨rfl,rfl⟩;go_wp2;refine bodyPost_ret (v:=.tuple #[.slice none 0 0,.int .i64 1]) (by simp[results,Tryz.results23,go_sem]) rfl ?_;exact sW.nil (zH _ _)
 | true =>
 rw[ho]at h4;have H1:=ho;simp only[tZ,decide_eq_true_eq]at H1;obtain⟨H3,H2,a0,H9,hk,a1,hm⟩:=H1;have H8:0<=m/\m<=4:=by split at hm<;>omega
 have a2:0<=k:=by split at hk<;>omega
 obtain⟨L,rfl⟩:∃L:Nat,letters=(L:Int):=⟨letters.toNat,by omega⟩;obtain⟨K,rfl⟩:∃K:Nat,k=(K:Int):=⟨k.toNat,by omega⟩;obtain⟨M,rfl⟩:∃M:Nat,m=(M:Int):=⟨m.toNat,by omega⟩;have h8:=Kh (qUM kind L K M w H3 H2 (by omega) (by omega) (by omega) (by omega) (by omega));have h7:=qPG (letters:=L) (k:=K) (m:=M) H3 H2 (by omega) (fun h=>by rw[if_neg h]at hk;omega);have H5:=Kh h7;have a4:=Kh ho;by_cases h6:kind=6/\8<(K:Int)+2
 ·have e1:famE kind L K M=3:=by rw[famE,if_neg (by rw[ho];simp),if_pos (.inl h6)]
  have e2:famL kind L K M=[]:=by rw[famL,e1];rfl
  rw[e1,e2];obtain⟨rfl,a5⟩:=h6;clear e1 e2 ho h7 hm hk;go_enter Tryz.func23,Tryz.ntmps23;go_wp2_with fail;refine h4.out.mono ?_;rintro e w ⟨rfl,rfl⟩;go_wp2;refine bodyPost_ret (v:=.tuple #[.slice none 0 0,.int .i64 3]) (by simp[results,Tryz.results23,go_sem]) rfl ?_;exact sW.nil (zH _ _)
 have h0:kind=6->(K:Int)+2<=8:=fun h=>by
  have:¬8<(K:Int)+2:=fun h2=>h6 ⟨h,h2⟩;omega
 by_cases hs:300<eR kind L K M
 ·have e1:famE kind L K M=3:=by rw[famE,if_neg (by rw[ho];simp),if_pos (.inr (by simpa using hs))]
  have e2:famL kind L K M=[]:=by rw[famL,e1];rfl
  rw[e1,e2];obtain⟨sz,h1⟩:=Nm (eR kind L K M);rw[<-h1]at hs h8;clear e1 e2 ho h7 h1 hm hk H5 h6;by_cases h66:kind=6
  ·have hg:=h0 h66
   subst h66;go_enter Tryz.func23,Tryz.ntmps23;go_wp2_with fail;refine h4.out.mono ?_;rintro e w ⟨rfl,rfl⟩;go_wp2_with fail;refine h8.out.mono ?_;rintro e w ⟨rfl,rfl⟩;go_wp2;refine bodyPost_ret (v:=.tuple #[.slice none 0 0,.int .i64 3]) (by simp[results,Tryz.results23,go_sem]) rfl ?_;exact sW.nil (zH _ _)
  have q6:(kind == 6)=false:=by rw[beq_eq_false_iff_ne];exact h66
  go_enter Tryz.func23,Tryz.ntmps23;go_wp2_with fail;refine h4.out.mono ?_;rintro e w ⟨rfl,rfl⟩;go_wp2_with fail;refine h8.out.mono ?_;rintro e w ⟨rfl,rfl⟩;go_wp2;refine bodyPost_ret (v:=.tuple #[.slice none 0 0,.int .i64 3]) (by simp[results,Tryz.results23,go_sem]) rfl ?_;exact sW.nil (zH _ _)
 have e1:famE kind L K M=0:=by
  rw[famE,if_neg (by rw[ho];simp),if_neg];rintro (h|h)
  ·exact h6 h
  exact hs (by simpa using h)
 have e2:famL kind L K M=famP kind L K M:=by rw[famL,e1];simp
 rw[e1,e2];have H6:(famP kind L K M).length<=300:=by have:=h7;omega
 obtain⟨sz,h1⟩:=Nm (eR kind L K M);rw[<-h1]at hs h8;clear e1 e2 ho h7 h1 hm H5 h6;have h3:kind=1\/kind=2\/kind=3\/kind=4\/kind=5\/kind=6\/kind=7:=by omega
 have HE:Hid ((kind<=5->Calls Tryz.prog 45 #[.int .i64 kind,.int .i64 L,.int .i64 K] w (uG w (famP kind L K M)))/\(kind=6->Calls Tryz.prog 43 #[.int .i64 L,.int .i64 K] w (uG w (famP kind L K M))) /\
   (kind=7->Calls Tryz.prog 44 #[.int .i64 L,.int .i64 K,.int .i64 M] w (uG w (famP kind L K M)))):=Kh (by
  rcases h3 with rfl|rfl|rfl|rfl|rfl|rfl|rfl
  ·refine⟨fun _=>?_,fun h=>by omega,fun h=>by omega⟩
   have h:=qSO L K w (by omega) (by omega) (by omega)
   rwa [xCK L K M]at h
  all_goals obtain⟨K,rfl⟩:∃k',K=k'+1:=⟨K-1,by simp at hk;omega⟩
  ·refine⟨fun _=>?_,fun h=>by omega,fun h=>by omega⟩
   rw[<-xCJ L K M];exact qSN L K (K+1) w (by omega) (by omega) (by omega) rfl
  ·refine⟨fun _=>?_,fun h=>by omega,fun h=>by omega⟩
   rw[<-xCI L K M];exact qSM L K (K+1) w (by omega) (by omega) (by omega) rfl
  ·refine⟨fun _=>?_,fun h=>by omega,fun h=>by omega⟩
   rw[<-xCH L K M];exact qSL L K (K+1) w (by omega) (by omega) (by omega) rfl
  ·refine⟨fun _=>?_,fun h=>by omega,fun h=>by omega⟩
   rw[<-xCG L K M];exact qSK L K (K+1) w (by omega) (by omega) (by omega) rfl
  ·refine⟨fun h=>by omega,fun _=>?_,fun h=>by omega⟩
   have h:=qMR L (K+1) w (by omega) (by omega) (by omega) (by omega)
   rwa [xCF L (K+1) M]at h
  ·refine⟨fun h=>by omega,fun h=>by omega,fun _=>?_⟩
   have h:=qOA L (K+1) M w (by omega) (by omega) (by omega) (by omega) (by rw[qYP L (K+1) M];omega) (qAQ (by omega) (by omega))
   rwa [qYP L (K+1) M]at h)
 obtain⟨PS,H4⟩:=Nm (famP kind L K M);rw[<-H4]at HE⊢;clear H4 H6 hk;rcases (by omega:kind<=5\/kind=6\/kind=7) with h5|rfl|rfl
 all_goals
  first
  |
   have q6:(kind == 6)=false:=by rw[beq_eq_false_iff_ne];omega
   have q7:(kind == 7)=false:=by rw[beq_eq_false_iff_ne];omega
   have h9:=Kh (HE.out.1 h5);clear h5
  |
   have h9:=Kh (HE.out.2.1 rfl);have a3:=h0 rfl
  | have h9:=Kh (HE.out.2.2 rfl)
  clear h0 h3 HE;go_enter Tryz.func23,Tryz.ntmps23;go_wp2_with fail;refine h4.out.mono ?_;rintro e w ⟨rfl,rfl⟩;go_wp2_with fail;refine h8.out.mono ?_;rintro e w ⟨rfl,rfl⟩;go_wp2_with fail;refine h9.out.mono ?_;rintro e w2 ⟨sa,sc,svs,rfl,hr,H0,hg⟩;have HR:=Kh hr;have H7:=Kh H0;clear hr H0;go_wp2;refine bodyPost_ret (v:=.tuple #[.slice sa PS.length sc,.int .i64 0]) (by simp[results,Tryz.results23,go_sem]) rfl ?_;exact⟨sa,sc,svs,rfl,HR.out,H7.out,hg⟩
theorem qCY (B:Nat)(w:World)(pv cv:Value)(root:Int)(cs:List ChoV)(i:Nat)(r:Int)(h:pD B w cv cs)(hi:i<cs.length):Calls Tryz.prog 35 #[.agg #[pv,cv,.int .i64 root],.int .i64 (i:Int),.int .i64 r] w fun e w'=>e=.returned (.bool (refB cs i (cs.getD i default).p r))/\w.grownBy w' none:=by
 obtain⟨b,off,cap,rfl,hb,hc,hm,h9⟩:=h.at_ (by omega);have H6:cap<=9223372036854775807:=by unfold maxLen at hm;omega
 obtain⟨n,hn⟩:=Nm cs.length;have HN:=Kh hn;have h8:=hi;rw[<-hn]at hc hi⊢;have h4:=Ga w (.cells #[pv,.slice (some ⟨b,off,none⟩) n cap,.int .i64 root] 35) none;have h5:=heap_alloc_new w (.cells #[pv,.slice (some ⟨b,off,none⟩) n cap,.int .i64 root] 35);obtain⟨wA,h7⟩:=Nm (w.alloc (.cells #[pv,.slice (some ⟨b,off,none⟩) n cap,.int .i64 root] 35));obtain⟨P,hP⟩:=Nm w.heap.size;rw[<-h7]at h4 h5;rw[<-hP]at h5;have h3:=h9.kept h4 (by simp);obtain⟨p0,p1,p2⟩:=zQ h5;have c1:=h3.p i h8;obtain⟨H2,H0,H1,h6⟩:=K4 h3 h7 hP h4;obtain⟨x,hx⟩:=Nm ((cs.getD i default).p);have HX:=Kh hx;rw[<-hx]at c1;rw[<-hx];have H5:(i:Int)<n:=by omega
 have H4:(0:Int)<=i:=by omega
 clear h h9 h3 h4 h5 h7 hP hx hn h8;go_enter Tryz.func35,Tryz.ntmps35;go_upto_region 1 with fail;rw[<-H0.out,<-H1.out];by_cases h0:r<0
 ·have HR:Hid (refB cs i x r=false):=Kh (by simp[refB];omega)
  go_wp2;go_ret;exact⟨zW HR.out.symm,h6.out⟩
 by_cases h1:1+(i:Int)<r
 ·have HR:Hid (refB cs i x r=false):=Kh (by simp[refB];omega)
  go_wp2;go_ret;exact⟨zW HR.out.symm,h6.out⟩
 by_cases h2:r<2
 ·have HR:Hid (refB cs i x r=true):=Kh (by simp[refB];omega)
  have hd:decide (r<2)=true:=by simpa using h2
  go_wp2
  go_quiet (fail)
  go_wp2;go_ret;exact⟨zW (by rw[HR.out]),zA h6.out (by first|exact zN _ none|exact zK _ _ none)⟩
 have hd:decide (r<2)=false:=by simpa using h2
 obtain⟨q,rfl⟩:∃q:Nat,r=(q:Int)+2:=⟨(r-2).toNat,by omega⟩;have c2:=H2.out.p q (by have:=HN.out;omega);have e2:IntKind.i64.wrap ((q:Int)+2-2)=(q:Int):=by rw[show (q:Int)+2-2=q by omega];exact qB (by unfold maxLen at hm;omega)
 have e3:(q:Int)+2-2=(q:Int):=by omega
 have hq:q<n:=by omega
 have H3:(q:Int)<n:=by omega
 obtain⟨y,hy⟩:=Nm ((cs.getD q default).p);rw[<-hy]at c2
 have HR:Hid (refB cs i x ((q:Int)+2)=decide (x<y)):=Kh (by
  have e:((q:Int)+2).toNat-2=q:=by omega
  simp only[refB,e,<-hy];rw[Bool.eq_iff_iff];simp only[Bool.and_eq_true,decide_eq_true_eq]
  omega)
 clear hy;go_wp2
 go_quiet (fail)
 go_wp2;go_ret;exact⟨zW (by rw[HR.out]),zA h6.out (by first|exact zN _ none|exact zK _ _ none)⟩
theorem qAJ (B:Nat)(w:World)(v:Value)(g:DiaV)(letters:Int)(hB:B<=w.heap.size)(h:mB B w v g):Calls Tryz.prog 13 #[v,.int .i64 letters] w fun e w'=>e=.returned (.int .i64 (diaE g letters))/\w.grownBy w' none:=by
 obtain⟨pv,cv,rfl,hp,hc⟩:=h;obtain⟨pa,pc,rfl⟩:=hp.shape;obtain⟨ca,cc,rfl⟩:=hc.shape;have a6:=hp.len_le;have b8:=hc.len_le;unfold maxLen at a6 b8;obtain⟨ps,cs,root⟩:=g;simp only at hp hc a6 b8⊢;obtain⟨np,b5⟩:=Nm ps.length;obtain⟨nc,b6⟩:=Nm cs.length;rw[<-b5]at hp a6⊢;rw[<-b6]at hc b8⊢;have h9:=Ga w (.cells #[.slice pa np pc,.slice ca nc cc,.int .i64 root] 35) none;have a3:=heap_alloc_new w (.cells #[.slice pa np pc,.slice ca nc cc,.int .i64 root] 35);obtain⟨wA,c0⟩:=Nm (w.alloc (.cells #[.slice pa np pc,.slice ca nc cc,.int .i64 root] 35));obtain⟨P,hP⟩:=Nm w.heap.size;rw[<-c0]at h9 a3;rw[<-hP]at a3;have d3:=hp.kept h9 (by simp);have d6:=hc.kept h9 (by simp);obtain⟨p0,p1,p2⟩:=zQ a3;have e3:=h9.size;obtain⟨H2,h7,f4,f6,c8,f0⟩:=K6 b5 b6 d3 d6 a3 c0;have f5:=Kh hP;have h0:=Kh h9;have g0:Hid (B<=wA.heap.size):=Kh (by omega);clear hp hc d3 d6 h9 a3 c0 hP b5 b6 e3;go_enter Tryz.func13,Tryz.ntmps13;go_upto_region 1 with fail;rw[<-f0.out,<-f5.out];by_cases h1:letters<1
 ·go_wp2
  go_ret;exact⟨yA (qCF (.inl h1)).symm,h0.out⟩
 by_cases h2:6<letters
 ·go_wp2
  go_ret;exact⟨yA (qCF (.inr h2)).symm,h0.out⟩
 have H1:Hid (¬(letters<1\/6<letters)):=Kh (by omega);by_cases h3:300<np
 ·have e9:(300:Int)<np:=by omega
  go_wp2;go_ret;exact⟨yA (eC H1.out (.inl (by rw[<-H2.out];exact h3))).symm,h0.out⟩
 have e9:¬(300:Int)<np:=by omega
 by_cases h4:20000<nc
 ·have e8:(20000:Int)<nc:=by omega
  go_wp2;go_ret;exact⟨yA (eC H1.out (.inr (by rw[<-h7.out];exact h4))).symm,h0.out⟩
 have e8:¬(20000:Int)<nc:=by omega
 have H3:Hid (¬(300<ps.length\/20000<cs.length)):=Kh (by rw[<-H2.out,<-h7.out];omega);go_wp2
 go_loopg [6,7,29] np (fun gh s6 s7 i wr=>∃k:Nat,gh+k=np/\i=.int .i64 k/\vV letters (ps.drop k)=vV letters ps/\wA.grownBy wr none)
 case atStart=>exact⟨0,rfl,rfl,rfl,zH _ _⟩
 obtain⟨k,a2,rfl,d2,hg⟩:=hrel;obtain⟨H7,HG,H6⟩:=K3 a2 hg d2;clear a2 d2;by_cases hk:k<np
 ·have e6:(k:Int)<np:=by omega
  have d1:=f4.out.kept hg (by simp);obtain⟨b,off,cap,e,e7,H0,b9,H5⟩:=d1.at_ (by rw[<-H2.out];omega);rw[<-H2.out]at e H0 H5;simp only[Value.slice.injEq,true_and]at e;obtain⟨rfl,rfl⟩:=e;obtain⟨sa,sc,c1,H4,b4⟩:=H5 k hk;obtain⟨q,hq⟩:=Nm (ps.getD k []);rw[<-hq]at c1 H4 b4;have e4:pc<=9223372036854775807:=by unfold maxLen at b9;omega
  have HV:Hid (∀W:World,wr.grownBy W none->Calls Tryz.prog 34 #[.agg #[.slice sa q.length sc],.int .i64 letters] W fun e w'=>e=.returned (.int .i64 (patW q letters))/\wA.grownBy w' none):=Kh (fun W hW=>(jU B W _ q letters (H4.kept hW (by simp)) b4).mono fun e w' ⟨he,hg'⟩=>⟨he,zA HG.out (zC hW hg')⟩);have HQ:=Kh hq;obtain⟨E,hE⟩:=Nm (patW q letters);rw[<-hE]at HV;have HE:=Kh hE;obtain⟨ql,d0⟩:=Nm q.length;rw[<-d0]at c1 HV;clear d1 H5 H4 b4 hq hg hE d0;go_wp2_with fail;refine(HV.out _ (Ga wr _ none)).mono ?_;rintro e w1 ⟨rfl,h9⟩;have e0:=Kh h9;clear h9 HV;by_cases hE:E=0
  ·have e1:(E != 0)=false:=by simp[hE]
   have c6:=Kh hE;clear hE;go_wp2;go_roundg (np-(k+1))
   case measure=>have:=H7.out;omega
   exact⟨k+1,by have:=H7.out;omega,by go_num,(lL (by rw[<-H2.out];exact hk) (by rw[<-HQ.out,<-HE.out];exact c6.out)).trans H6.out,e0.out⟩
  have e1:(E != 0)=true:=by rw[bne_iff_ne];exact hE
  have c6:=Kh hE;clear hE;go_wp2;go_ret;exact⟨yA (by rw[qKS (g:=⟨ps,cs,root⟩) H1.out H3.out (k:=k) (by rw[<-H2.out];exact hk) H6.out (by rw[<-HQ.out,<-HE.out];exact c6.out)];show E=patW (ps.getD k []) letters;rw[<-HQ.out,<-HE.out]),zA h0.out (e0.out)⟩
 have e5:k=np:=by have:=H7.out;omega
 have f3:Hid (vV letters ps=0):=Kh (by rw[<-H6.out];exact jW (by rw[<-H2.out];exact hk));have H9:Hid (diaE ⟨ps,cs,root⟩ letters=bA ps.length cs root):=Kh (qKT H1.out H3.out f3.out);have a0:¬(k:Int)<np:=(by omega);obtain⟨p0,p1,p2⟩:=zQ (zB c8.out hg);clear e5 hg H7 a6;go_wp2;clear p0 p1 p2
 go_loopg [8,9,43] nc (fun gh s8 s9 i wr=>∃k:Nat,gh+k=nc/\i=.int .i64 k/\wT ps.length cs k/\wA.grownBy wr none)
 case atStart=>exact⟨0,rfl,rfl,cY _ _,HG.out⟩
 clear HG a0 hk;obtain⟨k,a2,rfl,d5,hg⟩:=hrel;obtain⟨H7,HG,e2⟩:=K3 a2 hg d5;clear a2 d5;by_cases hk:k<nc
 ·have e6:(k:Int)<nc:=by omega
  have b7:=f6.out.kept hg (by simp);have f7:=Kh b7;obtain⟨b,off,cap,e,e7,H0,b9,a9⟩:=b7.at_ (by rw[<-h7.out];omega);rw[<-h7.out]at e H0;simp only[Value.slice.injEq,true_and]at e;obtain⟨rfl,rfl⟩:=e;have e4:cc<=9223372036854775807:=by unfold maxLen at b9;omega
  have a1:k<cs.length:=(by rw[<-h7.out];exact hk);have c1:=a9.p k a1;have c2:=a9.y k a1;have c3:=a9.n k a1;have a4:Hid (∀(W:World) (r:Int),wr.grownBy W none->Calls Tryz.prog 35 #[.agg #[.slice pa np pc,.slice (some ⟨b,off,none⟩) nc cc,.int .i64 root],.int .i64 (k:Int),.int .i64 r] W fun e w'=>e=.returned (.bool (refB cs k (cs.getD k default).p r))/\W.grownBy w' none):=Kh (fun W r hW=>qCY B W _ _ root cs k r (f7.out.kept hW (by simp)) a1);obtain⟨c,b0⟩:=Nm (cs.getD k default);rw[<-b0]at c1 c2 c3 a4;have HC:=Kh b0
  have h8:Hid (choB ps.length cs k=(decide (0<=c.p/\c.p<np) && (refB cs k c.p c.y && refB cs k c.p c.n))):=Kh (by
   rw[b0,H2.out];rfl)
  clear b7 a9 a1 b0;obtain⟨x,y,n⟩:=c;simp only at c1 c2 c3 a4 h8;obtain⟨by_,d7⟩:=Nm (refB cs k x y);obtain⟨bn,d8⟩:=Nm (refB cs k x n);have c4:=Kh (fun W hW=>a4.out W y hW);have c5:=Kh (fun W hW=>a4.out W n hW);rw[<-d7]at c4 h8;rw[<-d8]at c5 h8;have H0:=heap_alloc_new wr (.cells #[.int .i64 x,.int .i64 y,.int .i64 n] 71);have a8:=Ga wr (.cells #[.int .i64 x,.int .i64 y,.int .i64 n] 71) none;obtain⟨w2,b3⟩:=Nm (wr.alloc (.cells #[.int .i64 x,.int .i64 y,.int .i64 n] 71));obtain⟨R,hR⟩:=Nm wr.heap.size;rw[<-b3]at H0 a8;rw[<-hR]at H0;obtain⟨f1,f2,f9,H8⟩:=K4 b3 hR H0 a8;have a5:=Kh (zB (zB c8.out hg) a8);obtain⟨p0,p1,p2⟩:=zQ a5.out;obtain⟨r0,r1,r2⟩:=zQ H0;clear d7 d8 b3 hR H0 a8 hg a4;go_upto_region 15 with fail;rw[<-f1.out,<-f2.out];clear c1 c2 c3;by_cases hx0:x<0
  ·have HF:Hid (choB ps.length cs k=false):=Kh (by rw[h8.out,show decide (0<=x/\x<(np:Int))=false by simp;omega];rfl)
   go_wp2;go_ret;exact⟨yA (by rw[H9.out,sV (by rw[<-h7.out];exact hk) HF.out]),zA h0.out (zA HG.out H8.out)⟩
  by_cases hx1:(np:Int)<=x
  ·have HF:Hid (choB ps.length cs k=false):=Kh (by rw[h8.out,show decide (0<=x/\x<(np:Int))=false by simp;omega];rfl)
   go_wp2;go_ret;exact⟨yA (by rw[H9.out,sV (by rw[<-h7.out];exact hk) HF.out]),zA h0.out (zA HG.out H8.out)⟩
  have c9:decide (0<=x/\x<(np:Int))=true:=by simp;omega
  rw[c9,Bool.true_and]at h8;clear c9;go_wp2_with fail;refine(c4.out _ H8.out).mono ?_;rintro e w3 ⟨rfl,a7⟩;have b1:=Kh a7;have c7:=Kh (zB a5.out a7);have f8:=Kh (zB f9.out a7);obtain⟨p0,p1,p2⟩:=zQ c7.out;obtain⟨r0,r1,r2⟩:=zQ f8.out;clear a7 c4;cases by_ with
  | false =>
   have HF:Hid (choB ps.length cs k=false):=Kh (by rw[h8.out];rfl);go_wp2;go_ret;exact⟨yA (by rw[H9.out,sV (by rw[<-h7.out];exact hk) HF.out]),zA h0.out (zA (zA HG.out H8.out) b1.out)⟩
  | true =>
   rw[Bool.true_and]at h8;go_wp2_with fail;refine(c5.out _ (zC H8.out b1.out)).mono ?_;rintro e w4 ⟨rfl,d4⟩;have d9:=Kh d4;clear d4 c5;cases bn with
   | false =>
    have HF:Hid (choB ps.length cs k=false):=Kh h8.out;go_wp2;go_ret;exact⟨yA (by rw[H9.out,sV (by rw[<-h7.out];exact hk) HF.out]),zA h0.out (zA (zA (zA HG.out H8.out) b1.out) d9.out)⟩
   | true =>
    go_wp2;go_roundg (nc-(k+1))
    case measure=>have:=H7.out;omega
    exact⟨k+1,by have:=H7.out;omega,by go_num,jE e2.out h8.out,zA (zA (zA HG.out H8.out) b1.out) d9.out⟩
 have a0:¬(k:Int)<nc:=by omega
 have b2:=Kh (cZ (root:=root) (by rw[<-h7.out];exact hk) e2.out);rw[<-h7.out]at b2;obtain⟨p0,p1,p2⟩:=zQ (zB c8.out hg);clear hg;by_cases h5:root<0
 ·go_wp2
  go_ret;exact⟨yA (by rw[H9.out,b2.out,if_neg (by omega)]),zA h0.out (HG.out)⟩
 by_cases h6:1+(nc:Int)<root
 ·go_wp2
  go_ret;exact⟨yA (by rw[H9.out,b2.out,if_neg (by omega)]),zA h0.out (HG.out)⟩
 go_wp2;go_ret;exact⟨yA (by rw[H9.out,b2.out,if_pos (by omega)]),zA h0.out (HG.out)⟩
end Go.Proofs.YtcoimliafiammaaGreat
