/- Part 19 of the proof. -/
import Derived.Test.YtjfdomfendbhfaaQg18
set_option linter.unusedVariables false
set_option linter.unusedSimpArgs false
set_option maxRecDepth 100000
set_option maxHeartbeats 16000000
namespace Go.Proofs.Ytjfdomfendbhfaa
open Go.Maps Go.RowKit
def qFD (d : DfaV)(ps : List (List ByteArray))(n E : Int): Prop :=
 (ofE d ps ≠ 0 ∧ n = 0 ∧ E = ofE d ps) ∨ (ofE d ps = 0 ∧ n = 0 ∧ E = 3 ∧ Over (ofT d ps) d.letters.toNat) ∨
  (ofE d ps = 0 ∧ ∃ (L : List (List Nat)) (sets : List (List Bool)) (ys ns : List Bool), BfsD (nxtT (ofT d ps)) d.letters.toNat (st0T (ofT d ps)) L ∧ L.length ≤ 4000 ∧ GrpI (MT (ofT d ps) ps.length L) (AT (ofT d ps) ps.length L) L.length L.length sets ys ns ∧ n = (sets.length : Int) ∧
   ((E = 20 ∧ ∃ i, i < sets.length ∧ ys.getD i false = true ∧ ns.getD i false = true) ∨ (E = 0 ∧ ∀ i, i < sets.length → ¬ (ys.getD i false = true ∧ ns.getD i false = true))))
def qIF (w:World)(d:DfaV)(ps:List (List ByteArray))(e:Ending)(w':World):Prop:=∃ n E,e=.returned (.tuple #[.int .i64 n,.int .i64 E])/\w.grownBy w' none/\qFD d ps n E
theorem bX (Bd:Nat)(w:World)(dv pv:Value)(d:DfaV)(ps:List (List ByteArray))(hBd:Bd<=w.heap.size)(hd:uW Bd w dv d)(hp:PatsIn Bd w pv ps)(hp4:ps.length<=4096)(h14:∀ p∈ps,patW p d.letters=0->sG p<=14):Calls Try.prog 20 #[dv,pv] w (qIF w d ps):=by
 have H0:=hd;obtain⟨fv,nv,rfl,hf,hn⟩:=hd;obtain⟨fa,fc,rfl⟩:=hf.shape;rw[yL]at H0 hf ⊢;obtain⟨na,nc,rfl⟩:=hn.shape;obtain⟨pa,pc,rfl⟩:=hp.shape;obtain⟨np,H3⟩:∃ n,n=ps.length:=⟨_,rfl⟩;obtain⟨fl,a9⟩:∃ n,n=d.final.length:=⟨_,rfl⟩;obtain⟨nl,a5⟩:∃ n,n=d.next.length:=⟨_,rfl⟩;obtain⟨dl,b1⟩:∃ n,n=d.letters:=⟨_,rfl⟩;obtain⟨ds,b0⟩:∃ n,n=d.start:=⟨_,rfl⟩;rw[<- H3]at hp;rw[<- H3];rw[<- a9,<- a5,<- b1,<- b0]at H0 ⊢;have HD:=Kh H0;have HP:=Kh hp;obtain⟨wA,H5⟩:∃ wA,wA=w.alloc (.cells #[.int .i64 dl,.int .i64 ds,.slice fa fl fc,.slice na nl nc] 42):=⟨_,rfl⟩;have h5:=Ga w (.cells #[.int .i64 dl,.int .i64 ds,.slice fa fl fc,.slice na nl nc] 42) none;have h7:=heap_alloc_new w (.cells #[.int .i64 dl,.int .i64 ds,.slice fa fl fc,.slice na nl nc] 42);obtain⟨Q,hQ⟩:∃ Q,Q=w.heap.size:=⟨_,rfl⟩;rw[<- H5]at h5 h7;rw[<- hQ]at h7;obtain⟨c0,c1,c2,c3⟩:=zF h7;have b8:=Kh hQ;have b4:=Kh h5;have c7:=Kh h7;have b7:=Kh H5;have H7:=Kh (pV Bd wA _ d (by have:=h5.size;omega) (HD.out.kept h5 (by simp)));have H8:Hid (∀ W:World,wA.grownBy W none->xD d=0->Calls Try.prog 62 #[.agg #[.int .i64 dl,.int .i64 ds,.slice fa fl fc,.slice na nl nc],.slice pa np pc] W (qGZ W d ps)):=Kh (fun W hW h0=>rgroups_any Bd W _ _ d ps (by have:=h5.size;have:=hW.size;omega) (HD.out.kept (zA h5 hW (by simp)) (by simp)) (HP.out.kept (zA h5 hW (by simp)) (by simp)) hp4 h0 h14);obtain⟨E,hE⟩:∃ E,E=xD d:=⟨_,rfl⟩;rw[<- hE]at H7 H8;have HE:=Kh hE;clear h7 h5 H5 hQ hf hn H0 hp H3 a9 a5 b1 b0 hE h14;go_enter Try.func20,Try.ntmps20;go_upto_region 1 with fail;rw[<- b7.out,<- b8.out];go_wp2_with fail;refine H7.out.mono ?_;rintro e w1 ⟨rfl,H4⟩;have a1:=Kh H4;have c6:=Kh (zB c7.out H4 (by simp));clear H4 c0 c1 c2 c3;by_cases hE0:E=0
 case neg =>
  have e1:(E != 0)=true:=by rw[bne_iff_ne];exact hE0
  have h9:Hid (ofE d ps=E):=Kh (by rw[qFX (by rw[<- HE.out];exact hE0),HE.out]);have c5:=Kh hE0;clear hE0;go_wp2;refine bodyPost_ret (v:=.tuple #[.int .i64 0,.int .i64 E]) (by simp[results,Try.results20,go_sem]) rfl ?_;exact⟨0,E,rfl,zA b4.out a1.out (by simp),.inl ⟨by rw[h9.out];exact c5.out,rfl,h9.out.symm⟩⟩
 case pos =>
  subst hE0;obtain⟨c0,c1,c2,c3⟩:=zF c6.out;have h6:=Kh (H8.out w1 a1.out rfl);go_wp2_with fail;refine h6.out.mono ?_;have H1:Hid (ofE d ps=autE d.letters ps):=Kh (by unfold ofE;rw[if_pos HE.out.symm];rfl);clear c0 c1 c2 c3 h6 H8 H7;rintro e w2 ⟨a8,H2⟩;have a0:=Kh (zA (zA b4.out a1.out (by simp)) a8 (by simp));clear a8;rcases H2 with ⟨a,rfl,ha0,hwhy⟩|⟨haE,B,L,sets,ys,ns,m,sc,yc,nc',sa,ya,na',rfl,hB,hm,hbfs,hl4,h4,hoy,hon⟩
  ·have e1:(a != 0)=true:=by rw[bne_iff_ne];exact ha0
   have c8:=Kh ha0;have H6:=Kh hwhy;clear ha0 hwhy;go_wp2;refine bodyPost_ret (v:=.tuple #[.int .i64 0,.int .i64 a]) (by simp[results,Try.results20,go_sem]) rfl ?_;refine⟨0,a,rfl,a0.out,?_⟩;rcases H6.out with h|⟨h1,h2,h3⟩
   ·exact .inl ⟨by rw[H1.out,<- h];exact c8.out,rfl,by rw[H1.out,<- h]⟩
   ·exact .inr (.inl ⟨by rw[H1.out,h1],rfl,h2,h3⟩)
  ·have h8:Hid (∀ E:Int,((E=20/\∃ i,i<sets.length/\ys.getD i false=true/\ns.getD i false=true)\/(E=0/\∀ i,i<sets.length->¬ (ys.getD i false=true/\ns.getD i false=true)))->qFD d ps (m:Int) E):=Kh (fun E h=>.inr (.inr ⟨by rw[H1.out,haE],L,sets,ys,ns,hbfs,hl4,h4,by rw[hm],h⟩))
   have HM:=Kh hm;have b9:=Kh hoy;have c4:=Kh hon;have b3:Hid (ys.length=m/\ns.length=m):=Kh ⟨by rw[h4.leny,hm],by rw[h4.lenn,hm]⟩;have d1:m<=4000:=by have:=h4.len_le;omega
   clear haE hB hm hbfs hl4 h4 hoy hon;obtain⟨w5,rfl⟩:∃ w5:World,w5=w2:=⟨_,rfl⟩;go_wp2
   go_loopg [11,30] m (fun gh v11 v30 wr=>∃ i:Nat,gh+i=m/\v30=.int .i64 i/\w5.grownBy wr none/\∀ x,x<i->¬ (ys.getD x false=true/\ns.getD x false=true))
   case atStart=>exact⟨0,rfl,rfl,zL _ _,fun x hx=>by omega⟩
   case round =>
    obtain⟨i,h4,rfl,hg,a4⟩:=hrel;have H9:=Kh h4;have b2:=Kh a4;have HG:=Kh hg;clear h4 a4;by_cases hi:i<m
    ·have b6:(i:Int)<m:=by omega
     obtain⟨yb,rfl,c9,a3,a2⟩:=yW (zP b9.out hg) (by omega);obtain⟨nb,rfl,d0,a7,a6⟩:=yW (zP c4.out hg) (by omega);have cy:=a2.bool i (by rw[b3.out.1];exact hi);have cn:=a6.bool i (by rw[b3.out.2];exact hi);obtain⟨y,hy⟩:∃ y,y=ys.getD i false:=⟨_,rfl⟩;obtain⟨z,hz⟩:∃ z,z=ns.getD i false:=⟨_,rfl⟩;rw[<- hy]at cy;rw[<- hz]at cn;have HY:=Kh hy;have HZ:=Kh hz;have ky:yc<=9223372036854775807:=by unfold maxLen at a3;omega
     have kn:nc'<=9223372036854775807:=by unfold maxLen at a7;omega
     clear hy hz a2 a6 hg a3 a7;cases y<;>cases z
     case true.true =>
      go_wp2;refine bodyPost_ret (v:=.tuple #[.int .i64 (m:Int),.int .i64 20]) (by simp[results,Try.results20,go_sem]) rfl ?_;exact⟨m,20,rfl,zA a0.out HG.out (by simp),h8.out 20 (.inl ⟨rfl,i,by rw[<- HM.out];exact hi,HY.out.symm,HZ.out.symm⟩)⟩
     all_goals
      go_wp2;go_roundg (m - (i+1))
      case measure=>have:=H9.out;omega
      case rel =>
       refine⟨i+1,by have:=H9.out;omega,by go_num,HG.out,fun x hx=>?_⟩;rcases Nat.lt_succ_iff_lt_or_eq.1 hx with hx|rfl
       ·exact b2.out x hx
       ·rw[<- HY.out,<- HZ.out];simp
    ·have b5:i=m:=by have:=H9.out;omega
     have b6:¬ (i:Int)<m:=(by omega);subst b5;go_wp2;refine bodyPost_ret (v:=.tuple #[.int .i64 (i:Int),.int .i64 0]) (by simp[results,Try.results20,go_sem]) rfl ?_;exact⟨i,0,rfl,zA a0.out HG.out (by simp),h8.out 0 (.inr ⟨rfl,by rw[<- HM.out];exact b2.out⟩)⟩
end Go.Proofs.Ytjfdomfendbhfaa
namespace Go.Proofs.Ytjfdomfendbhfaa
theorem grp_conf {ds:List DfaV}{np k:Nat}{L:List (List Nat)}{sets:List (List Bool)}{ys ns:List Bool}(hn:np<ds.length)(hL:BfsD (nxtT ds) k (st0T ds) L)(h:GrpI (MT ds np L) (AT ds np L) L.length L.length sets ys ns):(∃ i,i<sets.length/\ys.getD i false=true/\ns.getD i false=true) ↔ Conf ds np k:=by
 constructor
 ·rintro ⟨i,hi,hy,hz⟩
  obtain⟨a,ha,e1,e2⟩:=(h.yes i hi).1 hy;obtain⟨b,hb,e3,e4⟩:=(h.no i hi).1 hz;exact(mP hn hL).2 ⟨L.getD a [],L.getD b [],by rw[zG ha];exact List.getElem_mem ha,by rw[zG hb];exact List.getElem_mem hb,e1.trans e3.symm,e2,e4⟩
 ·intro hc
  obtain⟨x,y,hx,hy,h1,h2,h3⟩:=(mP hn hL).1 hc;obtain⟨i,hi,rfl⟩:=List.getElem_of_mem hx;obtain⟨j,hj,rfl⟩:=List.getElem_of_mem hy;rw[<- zG (d:=[]) hi]at h1 h2;rw[<- zG (d:=[]) hj]at h1 h3;obtain⟨q,hq,e⟩:=List.getElem_of_mem (h.all i hi);rw[<- zG (d:=[]) hq]at e;exact⟨q,hq,(h.yes q hq).2 ⟨i,hi,e.symm,h2⟩,(h.no q hq).2 ⟨j,hj,h1.symm.trans e.symm,h3⟩⟩
theorem qHN {w':World}{d:DfaV}{ps:List (List ByteArray)}{v:Value}{u1 u2:ByteArray}{E n F:Int}(h:OfOut w' d ps v u1 u2 E)(h':qFD d ps n F):E=F:=by
 have h0:ps.length<(ofT d ps).length:=by rw[uB];omega
 rcases h' with ⟨a1,_,a3⟩|⟨a1,_,a3,a4⟩|⟨a1,L',sets,ys,ns,hL',hl',hg,hn',hF⟩
 ·cases h with
  | bad _=>exact a3.symm
  | over h _=>exact absurd h a1
  | conf h=>exact absurd h a1
  | ok _ _ _ _ h=>exact absurd h a1
 ·cases h with
  | bad h=>exact absurd a1 h
  | over _ _=>exact a3.symm
  | conf _ hu=>exact(pG hu a4).elim
  | ok _ _ _ L _ hL hl4=>exact(pG ⟨L,hL,hl4⟩ a4).elim
 ·have hc:=grp_conf h0 hL' hg
  cases h with
  | bad h=>exact absurd a1 h
  | over _ ho=>exact(pG ⟨L',hL',hl'⟩ ho).elim
  | conf _ _ hcf =>
   rcases hF with ⟨e,_⟩|⟨_,e2⟩
   ·exact e.symm
   ·obtain⟨i,hi,h1⟩:=hc.2 hcf
    exact(e2 i hi h1).elim
  | ok _ _ _ _ _ _ _ hno =>
   rcases hF with ⟨_,e2⟩|⟨e,_⟩
   ·exact absurd (hc.1 e2) hno
   ·exact e.symm
open Go.RowKit
def exts (bs:List (List (List Int)))(ws:List (List Int)):List (List (List Int)):=bs.flatMap fun b=>ws.map fun u=>b++[u]
def chB (ws:List (List Int)):Nat->List (List (List Int))
 | 0=>ws.map oneB
 | i+1=>exts (chB ws i) (ws.drop 1)
def chL (ws:List (List Int)):Nat->List (List (List Int))
 | 0=>ws.map oneB
 | i+1=>chL ws i++exts (chB ws i) ws
theorem aR (ws:List (List Int))(i:Nat):∀ d,chL ws i <+: chL ws (i+d)
 | 0=>List.prefix_refl _
 | d+1=>(aR ws i d).trans (List.prefix_append _ _)
theorem nT {bs:List (List (List Int))}{ws:List (List Int)}{p:Nat}(hp:p<bs.length):exts (bs.take (p+1)) ws=exts (bs.take p) ws++ws.map fun u=>bs[p]++[u]:=by
 rw[exts,List.take_succ_eq_append_getElem hp,List.flatMap_append];simp[exts]
theorem exts_pre (bs:List (List (List Int)))(ws:List (List Int))(p:Nat):exts (bs.take p) ws <+: exts bs ws:=by
 conv=>rhs;rw[<- List.take_append_drop p bs]
 rw[exts,exts,List.flatMap_append];exact List.prefix_append _ _
theorem eB {bs:List (List (List Int))}{ws:List (List Int)}{p:Nat}(hp:p<bs.length)(q:Nat):exts (bs.take p) ws++(ws.take q).map (fun u=>bs[p]++[u]) <+: exts bs ws:=by
 refine List.IsPrefix.trans ?_ (exts_pre bs ws (p+1));rw[nT hp];exact List.prefix_append_right_inj _ |>.2 ((List.take_prefix q ws).map _)
theorem lU {ws:List (List Int)}:∀ (i:Nat) {b:List (List Int)},b∈chB ws i->b.length=i+1
 | 0,b,h=>by
  obtain⟨u,_,rfl⟩:=List.mem_map.1 h;rfl
 | i+1,b,h=>by
  obtain⟨c,hc,hb⟩:=List.mem_flatMap.1 h
  obtain⟨u,_,rfl⟩:=List.mem_map.1 hb
  rw[List.length_append,lU i hc];rfl
theorem vT (bs:List (List (List Int)))(ws:List (List Int)):(exts bs ws).length=bs.length * ws.length:=by
 induction bs with
 | nil=>simp[exts]
 | cons b bs ih =>
  have:exts (b::bs) ws=(ws.map fun u=>b++[u])++exts bs ws:=rfl;rw[this,List.length_append,ih,List.length_map,List.length_cons,Nat.succ_mul];omega
theorem chB_le {ws:List (List Int)}(hw:1<=ws.length):∀ i,(chB ws i).length<=(chL ws i).length/\(exts (chB ws i) (ws.drop 1)).length<=(chL ws (i+1)).length:=by
 have step:∀ i,(exts (chB ws i) (ws.drop 1)).length<=(chL ws (i+1)).length:=fun i=>by
  rw[chL,List.length_append,vT,vT,List.length_drop];have:=Nat.mul_le_mul_left (chB ws i).length (show ws.length - 1<=ws.length by omega);omega
 intro i;refine⟨?_,step i⟩;cases i with
 | zero=>exact Nat.le_refl _
 | succ i=>exact step i
theorem qCU {ws:List (List Int)}(h:2<=ws.length):∀ i,1<=(chB ws i).length
 | 0=>by simp[chB];omega
 | i+1=>by
  rw[chB,vT,List.length_drop]
  exact Nat.mul_pos (qCU h i) (by omega)
theorem qAO {B e:Nat}{w:World}{sa:Option Addr}{n sc:Nat}{xs:List Value}(h:RowT B e w (.slice sa n sc) xs)(hp:1<=n):∃ b off,sa=some ⟨b,off,none⟩/\n<=sc/\sc<=maxLen:=by
 rcases h with ⟨hn,hn2⟩|⟨b,off,cap,cur,m,hv,hb,hc1,hc2,hblk,hcell⟩
 ·simp only[Value.slice.injEq]at hn;omega
 ·simp only[Value.slice.injEq]at hv
  obtain⟨rfl,rfl,rfl⟩:=hv;exact⟨b,off,rfl,hc1,hc2⟩
structure LUp (e base:Nat)(w:World)(v:Value)(n:Nat)(svs:List Value)(ps:List (List (List Int))):Prop where
 own:w.ownsRow base e 1 v n svs
 rows:wH w.heap.size 9 strs w svs ps
 ne:e≠9
theorem LUp.len {e base n:Nat}{w:World}{v:Value}{svs:List Value}{ps:List (List (List Int))}(h:LUp e base w v n svs ps):n=ps.length:=by
 have:=h.own.1;have:=h.rows.1;omega
theorem LUp.nil {e:Nat}(he:e≠9)(base:Nat)(w:World):LUp e base w (.slice none 0 0) 0 [] []:=⟨World.ownsRow_nil _ _ _ _,wH.nil,he⟩
theorem LUp.kept {e base n:Nat}{w w':World}{v:Value}{svs:List Value}{ps:List (List (List Int))}{row:Option Nat}(h:LUp e base w v n svs ps)(hg:w.grownBy w' row)(hr:∀ k,row=some k->w.heap.size<=k\/(yH w 9 k/\yH w e k)):LUp e base w' v n svs ps:=by
 refine⟨h.own.kept hg ?_,(h.rows.kept hg (fun k e=>(hr k e).imp id (·.1))).mono hg.size,h.ne⟩;rcases hv:v.ownBlock with _|k
 ·exact .inl rfl
 ·refine .inr fun e1=>?_
  rcases hr k e1.symm with h1|⟨_,cur,e',m,hb,hn⟩
  ·have:=(h.own.lt k hv).2;omega
  ·exact zQ h.own hb (fun e2=>hn e2.symm) hv
theorem LUp.push {e base n m b2:Nat}{w w1 w':World}{v v' sv:Value}{svs:List Value}{ps:List (List (List Int))}{us:List (List Int)}(h:LUp e base w v n svs ps)(hg1:w.grownBy w1 none)(ho1:w1.ownsRow b2 9 1 sv m (strs us))(hown:w'.ownsRow base e 1 v' (n+1) (svs++[sv]))(hg:w1.grownBy w' v.ownBlock):LUp e base w' v' (n+1) (svs++[sv]) (ps++[us])/\w.grownBy w' v.ownBlock:=by
 have h1:=h.kept hg1 (by simp);have h0:=zS h1.own h.ne;refine⟨⟨hown,?_,h.ne⟩,zD (wE hg1) hg⟩;have h2:=((h1.rows.snoc (RowT.of_owns ho1)).kept hg (fun k e=>.inr (h0 k e))).mono hg.size;exact h2
theorem LUp.ofPats {base n:Nat}{w:World}{v:Value}{svs:List Value}{ps:List (List (List Int))}(h:PatsUp base w v n svs ps):LUp 28 base w v n svs ps:=⟨h.own,h.rows,by decide⟩
theorem nW:ElemOk Try.prog 147 26 (.slice none 0 0) 24:=⟨Try.underlying147,by kernel_rfl,rfl⟩
structure LRead (B:Nat)(w:World)(v:Value)(svs:List Value)(bs:List (List (List Int))):Prop where
 row:RowT B 26 w v svs
 rows:wH B 9 strs w svs bs
theorem LRead.kept {B:Nat}{w w':World}{v:Value}{svs:List Value}{bs:List (List (List Int))}{row:Option Nat}(h:LRead B w v svs bs)(hg:w.grownBy w' row)(hr:∀ k,row=some k->B<=k\/(yH w 26 k/\yH w 9 k)):LRead B w' v svs bs :=
 ⟨h.row.kept hg (fun k e=>(hr k e).imp id (·.1)),h.rows.kept hg (fun k e=>(hr k e).imp id (·.2))⟩
theorem LRead.at {B b off sc n:Nat}{w:World}{svs:List Value}{bs:List (List (List Int))}(h:LRead B w (.slice (some ⟨b,off,none⟩) n sc) svs bs)(hn:n=bs.length){p:Nat}(hp:p<n):∃ (a:Option Addr) (c:Nat),w.cell? ⟨b,off+p,none⟩=some (.slice a (bs[p]'(by omega)).length c)/\RowT B 9 w (.slice a (bs[p]'(by omega)).length c) (strs (bs[p]'(by omega))):=by
 have hl:=h.rows.1;have h2:=h.rows.2 p (by omega) (by omega);have h0:=h.row.row;rcases h0 with ⟨a0,c0,e,hx⟩|⟨b',off',cap',hv,_,_,_,hra⟩
 ·simp only[Value.slice.injEq]at e;omega
 ·simp only[Value.slice.injEq,Option.some.injEq,Addr.mk.injEq,and_true]at hv
  obtain⟨⟨rfl,rfl⟩,_⟩:=hv;have hc:=hra.2 p (by omega);obtain⟨a,c,e⟩:=h2.row.shape;rw[yT]at e;refine⟨a,c,?_,?_⟩
  ·rw[hc,e]
  ·rw[<- e];exact h2
theorem LRead.of {base n:Nat}{w:World}{v:Value}{svs:List Value}{bs:List (List (List Int))}(h:LUp 26 base w v n svs bs):LRead w.heap.size w v svs bs:=⟨RowT.of_owns h.own,h.rows⟩
theorem chains_any (letters k m:Nat)(w:World)(h1:1<=letters)(h6:letters<=6)(hk:k<=8)(hm4:m<=4)(hN:(chL (upTo letters (k+1)) (m+1)).length<=1000)(h2w:2<=(upTo letters (k+1)).length):Calls Try.prog 93 #[.int .i64 letters,.int .i64 k,.int .i64 m] w (sE w (chL (upTo letters (k+1)) (m+1))):=by
 obtain⟨ws,d9⟩:∃ ws,ws=upTo letters (k+1):=⟨_,rfl⟩;rw[<- d9]at hN h2w ⊢;have a8:=Kh d9;have g2:=Kh (uI letters k w h1 h6 hk);rw[<- d9]at g2;have i9:1<=ws.length:=by omega
 have k6:ws.length<=1000:=by
  have:=(aR ws 0 (m+1)).length_le;rw[Nat.zero_add]at this;have e:(chL ws 0).length=ws.length:=by simp[chL]
  omega
 have i6:Hid (∀ i,i<=m+1->(chL ws i).length<=1000):=Kh (fun i hi=>by
  have:=(aR ws i (m+1 - i)).length_le;rw[show i+(m+1 - i)=m+1 by omega]at this
  omega)
 clear d9 hN;go_enter Try.func93,Try.ntmps93;go_wp2_with fail;refine g2.out.mono ?_;rintro e w1 ⟨sa,sc,rfl,b0,f2⟩;obtain⟨b,off,rfl,l4,i1⟩:=wS b0 (by omega);have e4:=Kh f2.size;have l2:(1:Int)<sc:=by omega
 have l3:sc<=9223372036854775807:=by unfold maxLen at i1;omega
 clear g2 i1;go_wp2
 go_loopw [8,28] (fun v i wr=>∃ (sl:Option Addr) (c j:Nat) (svs:List Value),i=.int .i64 j/\j<=ws.length/\v=.slice sl j c /\
   PatsUp w1.heap.size wr v j svs ([]++((ws.drop 0).take j).map oneB)/\RowT w1.heap.size 9 wr (.slice (some ⟨b,off,none⟩) ws.length sc) (strs ws)/\w.grownBy wr none/\w1.heap.size<=wr.heap.size)
  (fun _ i _=>ws.length - (intOf i).toNat)
 case atStart=>exact⟨_,_,0,_,rfl,Nat.zero_le _,rfl,by simpa using PatsUp.nil _ _,b0,f2,Nat.le_refl _⟩
 case round =>
  clear b0 f2;obtain⟨sl,c,j,svs,rfl,hj,rfl,g6,hT,hg,hs⟩:=hrel;have b9:=Kh g6;clear g6;by_cases hlt:j<ws.length
  ·have b3:(j:Int)<((ws.length:Nat):Int):=by omega
   have h0:wr.cell? ⟨b,off+j,none⟩=some (.string (strOfNums ws[j])):=by
    have:=xJ hT (i:=j) (by omega);exact this
   have hu:=wI (letters:=letters) (n:=k+1) (by omega) (u:=ws[j]) (by rw[<- a8.out];exact List.getElem_mem (by omega));obtain⟨u,H5⟩:∃ u,u=ws[j]:=⟨_,rfl⟩;have HU:=Kh H5;rw[<- H5]at hu h0;clear H5;have d1:=b9.out.own.alloc (.cells #[.string (strOfNums u)] 9);go_wp2_with (at_builtin;refine app1 rfl (.tmp 32) (.tmp 36) _ rfl xZ w1.heap.size _ j svs rfl d1 _ (by rw[zJ];rfl) rfl ?c1 ?c2 ?c3 ?_)
   case c1=>unfold maxLen;omega
   case c2=>omega
   case c3=>rw[zJ];have:=hg.size;have:=e4.out;omega
   intro sl' c' w3 H0 a3 _;obtain⟨g8,H2⟩:=b9.out.push (us:=oneB u) (cs:=#[.string (strOfNums u)]) (q:=1) rfl rfl (by unfold maxLen;omega) H0 a3;have j7:=fun q (e:(Value.slice sl j c).ownBlock=some q)=>(b9.out.own.lt q e).1;have e2:=hT.kept H2 (fun q e=>.inr (zS b9.out.own (by decide) q e));have H9:=zA hg H2 (fun q e=>by have:=j7 q e;have:=e4.out;omega);have k8:=H2.size;have k4:=Kh g8;clear H0 a3 d1 h0 H2 g8 hT;go_wp2;go_roundw
   case rel =>
    refine⟨sl',c',j+1,svs++[Value.slice (some ⟨wr.heap.size,0,none⟩) 1 1],by go_num,by omega,rfl,?_,e2,H9,by omega⟩
    have e7:[]++((ws.drop 0).take (j+1)).map oneB=([]++((ws.drop 0).take j).map oneB)++[oneB u]:=by
     have e9:(ws.drop 0)[j]'(by rw[List.length_drop];omega)=u:=by rw[HU.out];simp
     rw[yC oneB _ j (by rw[List.length_drop];omega),e9];simp only[List.append_assoc]
    rw[e7];exact k4.out
   case measure=>simp[intOf];omega
  ·obtain rfl:j=ws.length:=by omega
   have e8:[]++((ws.drop 0).take (ws.length)).map oneB=[]++(ws.drop 0).map oneB:=by rw[List.take_of_length_le (by rw[List.length_drop];omega)]
   rw[e8]at b9;clear e8 hlt;have f4:=Kh (LUp.ofPats b9.out);rw[List.drop_zero,List.nil_append]at f4;obtain⟨n8,l1⟩:∃ n,n=ws.length:=⟨_,rfl⟩;clear b9;go_wp2_with (at_make;refine qIG rfl _ _ _ rfl nW .i64 .i64 _ ws.length rfl rfl ?m1 ?m2 ?m3 ?_)
   case m1=>rfl
   case m2=>omega
   case m3=>unfold maxLen;omega
   intro w3 H0 a3;have d8:=Kh (f4.out.kept a3 (by simp));have g4:Hid (LUp 26 wr.heap.size w3 (.slice (some ⟨wr.heap.size,0,none⟩) 0 ws.length) 0 [] []):=Kh ⟨H0,wH.nil,by decide⟩;have e2:=hT.kept a3 (by simp);have d4:=zA hg a3 (by simp);have g5:w1.heap.size<=w3.heap.size:=Nat.le_trans hs a3.size;obtain⟨base,H7⟩:∃ base,base=wr.heap.size:=⟨_,rfl⟩;have e0:base<=w3.heap.size:=by rw[H7];exact a3.size
   have i8:w.heap.size<=base:=by rw[H7];exact hg.size
   rw[<- H7]at g4 ⊢;clear H0 a3 hT hg hs f4 H7;go_wp2
   go_loopw [11,44] (fun v i wq=>∃ (sb:Option Addr) (cb j:Nat) (svb:List Value),i=.int .i64 j/\j<=ws.length/\v=.slice sb j cb /\
     LUp 26 base wq v j svb ((ws.take j).map oneB)/\LUp 28 w1.heap.size wq (.slice sl ws.length c) ws.length svs (ws.map oneB)/\RowT w1.heap.size 9 wq (.slice (some ⟨b,off,none⟩) ws.length sc) (strs ws)/\w.grownBy wq none/\base<=wq.heap.size/\w1.heap.size<=wq.heap.size)
    (fun _ i _=>ws.length - (intOf i).toNat)
   case atStart=>exact⟨_,_,0,_,rfl,Nat.zero_le _,rfl,by simpa using g4.out,d8.out,e2,d4,e0,g5⟩
   case round =>
    clear g4 d8 e2 d4 e0 g5;obtain⟨sb,cb,j,svb,rfl,hj,rfl,g9,h8,hT,hg,e0,hs⟩:=hrel;obtain⟨wo,rfl⟩:∃ wo:World,wo=wr:=⟨_,rfl⟩;have a9:=Kh g9;have h3:=Kh h8;clear g9 h8;by_cases hlt:j<ws.length
    ·have b3:(j:Int)<ws.length:=by omega
     have h0:=xJ hT hlt;have hu:=wI (letters:=letters) (n:=k+1) (by omega) (u:=ws[j]) (by rw[<- a8.out];exact List.getElem_mem hlt);obtain⟨u,H5⟩:∃ u,u=ws[j]:=⟨_,rfl⟩;have HU:=Kh H5;rw[<- H5]at hu h0;clear H5;have f0:=Ga wo (.cells #[.string (strOfNums u)] 9) none;have d1:=(a9.out.kept f0 (by simp)).own;have d3:=World.ownsRow_lit (e:=9) (size:=1) wo #[.string (strOfNums u)] 1 (Nat.le_refl _) (by unfold maxLen;omega) (by simp);go_wp2_with (at_builtin;refine app1 rfl (.tmp 48) (.tmp 51) _ rfl nW base _ j svb rfl d1 _ (by rw[zJ];rfl) rfl ?c1 ?c2 ?c3 ?_)
     case c1=>unfold maxLen;omega
     case c2=>omega
     case c3=>(try rw[zJ]);omega
     intro sb' cb' w4 h4 H2 _;obtain⟨g7,H9⟩:=a9.out.push (us:=oneB u) f0 d3 h4 H2;have i2:=fun q (e:(Value.slice sb j cb).ownBlock=some q)=>(a9.out.own.lt q e).1;have H8:=zS a9.out.own (e':=9) (by decide);have H1:=zS a9.out.own (e':=28) (by decide);have j9:=hT.kept H9 (fun q e=>.inr (H8 q e));have f7:=Kh (h3.out.kept H9 (fun q e=>.inr ⟨H8 q e,H1 q e⟩));have H4:=zA hg H9 (fun q e=>by have:=i2 q e;omega);have k7:=H9.size;have k3:=Kh g7;clear h4 H2 H9 d1 h0 g7 hT f0 d3 H8 H1 i2;go_wp2;go_roundw
     case rel =>
      refine⟨sb',cb',j+1,svb++[Value.slice (some ⟨wo.heap.size,0,none⟩) 1 1],by go_num,by omega,rfl,?_,f7.out,j9,H4,by omega,by omega⟩;have e9:ws[j]'hlt=u:=HU.out.symm;rw[yC oneB _ j hlt,e9];exact k3.out
     case measure=>simp[intOf];omega
    ·obtain rfl:j=ws.length:=by omega
     rw[List.take_length]at a9;clear hlt;have a6:=Kh (LRead.of a9.out);have b1:ws.length=(chB ws 0).length:=by simp[chB]
     have i3:chL ws 0=ws.map oneB:=rfl;have i4:chB ws 0=ws.map oneB:=rfl;rw[<- i3]at h3;rw[<- i4]at a6;have i5:=Kh b1;clear i3 i4 a9 b1;go_wp2
     go_loopg [8,11,56] (m+1) (fun gh v8 v11 i wx=>∃ (q n nb:Nat) (sl:Option Addr) (c:Nat) (svs:List Value) (sb:Option Addr) (cb:Nat) (svb:List Value),gh+q=m+1/\i=.int .i64 q/\v8=.slice sl n c/\v11=.slice sb nb cb /\
       LUp 28 w1.heap.size wx (.slice sl n c) n svs (chL ws q)/\LRead wx.heap.size wx (.slice sb nb cb) svb (chB ws q)/\Hid (nb=(chB ws q).length)/\RowT w1.heap.size 9 wx (.slice (some ⟨b,off,none⟩) ws.length sc) (strs ws)/\w.grownBy wx none/\w1.heap.size<=wx.heap.size)
     case atStart=>exact⟨0,_,_,sl,c,svs,sb,cb,svb,rfl,rfl,rfl,rfl,h3.out,a6.out,i5,hT,hg,hs⟩
     case round =>
      clear h3 a6 i5 hT hg hs e0 i8;obtain⟨q,n,nb,sl,c,svs,sb,cb,svb,i0,rfl,rfl,rfl,h8,h7,b1,hT,hg,hs⟩:=hrel;obtain⟨wo,rfl⟩:∃ wo:World,wo=wr:=⟨_,rfl⟩;have f9:=Kh i0;have h3:=Kh h8;have h5:=Kh h7;clear i0 h8 h7;by_cases hq:q<m+1
      ·have l0:(q:Int)<(m:Int)+1:=by omega
       have k9:q<=4:=by omega
       have e5:1<=nb:=by rw[b1.out];exact qCU h2w q
       have a5:=chB_le i9 q;have j4:=i6.out q (by omega);have d5:=i6.out (q+1) (by omega);have c0:Hid (∀ bb∈chB ws q,bb.length=q+1):=Kh (fun bb h=>lU q h);obtain⟨Bs,c9⟩:∃ Bs,Bs=chB ws q:=⟨_,rfl⟩;obtain⟨L0,e3⟩:∃ L0,L0=chL ws q:=⟨_,rfl⟩;have g1:Hid ((L0++exts Bs ws).length<=1000):=Kh (by rw[e3,c9];exact d5);have k2:Hid ((exts Bs (ws.drop 1)).length<=1000):=Kh (by rw[c9];omega);have j2:nb<=1000:=by rw[b1.out];omega
       have a0:Hid (nb=Bs.length):=Kh (by rw[c9];exact b1.out);have i7:Hid (chB ws (q+1)=exts Bs (ws.drop 1)/\chL ws (q+1)=L0++exts Bs ws):=Kh (by rw[c9,e3];exact⟨rfl,rfl⟩);rw[<- c9]at h5 c0;rw[<- e3]at h3;clear a5 j4 d5 c9 e3 b1;obtain⟨bb,bo,rfl,j6,d6⟩:=qAO h5.out.row e5;have j5:cb<=9223372036854775807:=by unfold maxLen at d6;omega
       have k1:=Kh hs;obtain⟨BB,b8⟩:∃ BB,BB=wo.heap.size:=⟨_,rfl⟩;have l5:w1.heap.size<=BB:=by rw[b8];exact hs
       have a7:BB<=wo.heap.size:=by omega
       rw[<- b8]at h5;have j3:=h3.out.len;clear b8 d6;go_wp2
       go_loopw [8,60] (fun v8 i wx=>∃ (p n:Nat) (sl:Option Addr) (c:Nat) (svs:List Value),i=.int .i64 p/\p<=nb/\v8=.slice sl n c /\
         LUp 28 w1.heap.size wx (.slice sl n c) n svs (L0++exts (Bs.take p) ws)/\LRead BB wx (.slice (some ⟨bb,bo,none⟩) nb cb) svb Bs/\RowT w1.heap.size 9 wx (.slice (some ⟨b,off,none⟩) ws.length sc) (strs ws)/\w.grownBy wx none/\BB<=wx.heap.size)
        (fun _ i _=>nb - (intOf i).toNat)
       case atStart=>exact⟨0,n,sl,c,svs,rfl,Nat.zero_le _,rfl,by simpa [exts] using h3.out,h5.out,hT,hg,a7⟩
       case round =>
        clear h3 h5 hT hg hs a7 j3 k1;obtain⟨p,n,sl,c,svs,rfl,hp,rfl,h8,h7,hT,hg,a7⟩:=hrel;obtain⟨wo,rfl⟩:∃ wo:World,wo=wr:=⟨_,rfl⟩;have h3:=Kh h8;have h5:=Kh h7;clear h8 h7;by_cases hlt:p<nb
        ·have b3:(p:Int)<(nb:Int):=by omega
         have a2:p<Bs.length:=(by rw[<- a0.out];exact hlt);obtain⟨ra,rc,b7,H3⟩:=h5.out.at a0.out hlt;have d2:=c0.out _ (List.getElem_mem a2);obtain⟨bl,a5⟩:∃ bl,bl=Bs[p]'a2:=⟨_,rfl⟩;have a6:=Kh a5;rw[<- a5]at b7 H3 d2;obtain⟨bn,b6⟩:∃ bn,bn=bl.length:=⟨_,rfl⟩;rw[<- b6]at b7 H3;have g3:=Kh b6;have b5:bl.length<=100:=by omega
         clear a5 b6 d2;go_wp2
         go_loopw [8,66] (fun v8 i wx=>∃ (r n:Nat) (sl:Option Addr) (c:Nat) (svs:List Value),i=.int .i64 r/\r<=ws.length/\v8=.slice sl n c /\
           LUp 28 w1.heap.size wx (.slice sl n c) n svs (L0++exts (Bs.take p) ws++(ws.take r).map (fun u=>bl++[u]))/\LRead BB wx (.slice (some ⟨bb,bo,none⟩) nb cb) svb Bs/\RowT BB 9 wx (.slice ra bn rc) (strs bl)/\RowT w1.heap.size 9 wx (.slice (some ⟨b,off,none⟩) ws.length sc) (strs ws)/\w.grownBy wx none/\BB<=wx.heap.size)
          (fun _ i _=>ws.length - (intOf i).toNat)
         case atStart=>exact⟨0,n,sl,c,svs,rfl,Nat.zero_le _,rfl,by simpa using h3.out,h5.out,H3,hT,hg,a7⟩
         case round =>
          clear h3 h5 hT hg a7 H3 b7;obtain⟨r,n,sl,c,svs,rfl,hr,rfl,h8,h7,H3,hT,hg,a7⟩:=hrel;obtain⟨wo,rfl⟩:∃ wo:World,wo=wr:=⟨_,rfl⟩;have h3:=Kh h8;have h5:=Kh h7
          have j1:n<=1000:=by
           have h1:=h8.len
           have h2:(L0++exts (Bs.take p) ws++(ws.take r).map (fun u=>bl++[u])).length<=(L0++exts Bs ws).length:=by
            have e1:(L0++exts Bs ws).length=L0.length+(exts Bs ws).length:=List.length_append;rw[List.append_assoc,List.length_append,e1];have:=(eB (ws:=ws) a2 r).length_le;rw[<- a6.out]at this;omega
           have:=g1.out;omega
          clear h8 h7;by_cases h7:r<ws.length
          ·have e6:(r:Int)<ws.length:=by omega
           have h0:=xJ hT h7;obtain⟨u,H5⟩:∃ u,u=ws[r]:=⟨_,rfl⟩;have HU:=Kh H5;rw[<- H5]at h0;clear H5;have a4:=iO BB wo (.slice ra bn rc) bl u H3.row b5;unfold gD at a4;rw[<- g3.out]at a4;have g0:=Kh a4;clear a4;go_wp2_with fail;refine g0.out.mono ?_;rintro e w4 ⟨s4,c4,rfl,h4,H2⟩;have d7:=h3.out.kept H2 (by simp);go_wp2_with (at_builtin;refine app1 rfl (.tmp 70) (.tmp 75) _ rfl xZ w1.heap.size _ n svs rfl d7.own _ rfl rfl ?c1 ?c2 ?c3 ?_)
           case c1=>unfold maxLen;omega
           case c2=>omega
           case c3=>have:=H2.size;omega
           intro sl5 c5 w5 h9 H9 _;obtain⟨d0,H4⟩:=h3.out.push (us:=bl++[u]) H2 h4 h9 H9;have c8:=fun q (e:(Value.slice sl n c).ownBlock=some q)=>(h3.out.own.lt q e).1;have H8:=zS h3.out.own (e':=9) (by decide);have H1:=zS h3.out.own (e':=26) (by decide);have f3:=hT.kept H4 (fun q e=>.inr (H8 q e));have b4:=H3.kept H4 (fun q e=>.inr (H8 q e));have c6:=Kh (h5.out.kept H4 (fun q e=>.inr ⟨H1 q e,H8 q e⟩));have f1:=zA hg H4 (fun q e=>by have:=c8 q e;have:=e4.out;omega);have j0:=H4.size;have f5:=Kh d0;clear h4 h9 H2 H9 H4 d7 h0 d0 hT H3 H8 H1 c8;go_wp2;go_roundw
           case rel =>
            refine⟨r+1,n+1,sl5,c5,svs++[Value.slice s4 (bn+1) c4],by go_num,by omega,rfl,?_,c6.out,b4,f3,f1,by omega⟩;have e9:ws[r]'h7=u:=HU.out.symm;rw[yC (fun u=>bl++[u]) _ r h7,e9,<- List.append_assoc];exact f5.out
           case measure=>simp[intOf];omega
          ·obtain rfl:r=ws.length:=by omega
           rw[List.take_length,List.append_assoc,a6.out,<- nT a2]at h3;go_wp2;go_roundw
           case rel=>exact⟨p+1,n,sl,c,svs,by go_num,by omega,rfl,h3.out,h5.out,hT,hg,a7⟩
           case measure=>simp[intOf];omega
        ·obtain rfl:p=nb:=by omega
         rw[a0.out,List.take_length,<- i7.out.2]at h3;obtain⟨b2,j8⟩:∃ b2,b2=wo.heap.size:=⟨_,rfl⟩;have H6:b2<=wo.heap.size:=by omega
         have k0:BB<=b2:=by omega
         clear j8 a7 hlt;go_wp2
         go_loopw [18,81] (fun v18 i wx=>∃ (x nl:Nat) (sg:Option Addr) (cg:Nat) (svg:List Value),i=.int .i64 x/\x<=p/\v18=.slice sg nl cg /\
           LUp 26 b2 wx (.slice sg nl cg) nl svg (exts (Bs.take x) (ws.drop 1))/\LUp 28 w1.heap.size wx (.slice sl n c) n svs (chL ws (q+1))/\LRead BB wx (.slice (some ⟨bb,bo,none⟩) p cb) svb Bs/\RowT w1.heap.size 9 wx (.slice (some ⟨b,off,none⟩) ws.length sc) (strs ws)/\w.grownBy wx none/\b2<=wx.heap.size)
          (fun _ i _=>p - (intOf i).toNat)
         case atStart=>exact⟨0,0,none,0,[],rfl,Nat.zero_le _,rfl,LUp.nil (by decide) _ _,h3.out,h5.out,hT,hg,H6⟩
         case round =>
          clear h3 h5 hT hg H6;obtain⟨x,nl,sg,cg,svg,rfl,hx,rfl,c7,h8,h7,hT,hg,H6⟩:=hrel;obtain⟨wo,rfl⟩:∃ wo:World,wo=wr:=⟨_,rfl⟩;have a1:=Kh c7;have h3:=Kh h8;have h5:=Kh h7;clear c7 h8 h7;by_cases hlt:x<p
          ·have b3:(x:Int)<(p:Int):=by omega
           have a2:x<Bs.length:=(by rw[<- a0.out];exact hlt);obtain⟨ra,rc,b7,H3⟩:=h5.out.at a0.out hlt;have d2:=c0.out _ (List.getElem_mem a2);obtain⟨bl,a5⟩:∃ bl,bl=Bs[x]'a2:=⟨_,rfl⟩;have a6:=Kh a5;rw[<- a5]at b7 H3 d2;obtain⟨bn,b6⟩:∃ bn,bn=bl.length:=⟨_,rfl⟩;rw[<- b6]at b7 H3;have g3:=Kh b6;have b5:bl.length<=100:=by omega
           clear a5 b6 d2;go_wp2
           go_loopw [18,88] (fun v18 i wx=>∃ (r nl:Nat) (sg:Option Addr) (cg:Nat) (svg:List Value),i=.int .i64 r/\r<=ws.length - 1/\v18=.slice sg nl cg /\
             LUp 26 b2 wx (.slice sg nl cg) nl svg (exts (Bs.take x) (ws.drop 1)++((ws.drop 1).take r).map (fun u=>bl++[u]))/\LUp 28 w1.heap.size wx (.slice sl n c) n svs (chL ws (q+1))/\LRead BB wx (.slice (some ⟨bb,bo,none⟩) p cb) svb Bs/\RowT BB 9 wx (.slice ra bn rc) (strs bl)/\RowT w1.heap.size 9 wx (.slice (some ⟨b,off,none⟩) ws.length sc) (strs ws)/\w.grownBy wx none/\b2<=wx.heap.size)
            (fun _ i _=>ws.length - 1 - (intOf i).toNat)
           case atStart=>exact⟨0,nl,sg,cg,svg,rfl,Nat.zero_le _,rfl,by simpa using a1.out,h3.out,h5.out,H3,hT,hg,H6⟩
           case round =>
            clear a1 h3 h5 hT hg H6 H3 b7;obtain⟨r,nl,sg,cg,svg,rfl,hr,rfl,c7,h8,h7,H3,hT,hg,H6⟩:=hrel;obtain⟨wo,rfl⟩:∃ wo:World,wo=wr:=⟨_,rfl⟩;have a1:=Kh c7;have h3:=Kh h8;have h5:=Kh h7
            have j1:nl<=1000:=by
             have h1:=c7.len;have:=(eB (ws:=ws.drop 1) a2 r).length_le;rw[<- a6.out]at this;have:=k2.out;omega
            clear c7 h8 h7;by_cases h7:r<ws.length - 1
            ·have e6:(r:Int)<((ws.length - 1:Nat):Int):=by omega
             have h0:wo.cell? ⟨b,off+1+r,none⟩=some (.string (strOfNums (ws[1+r]'(by omega)))):=by
              have:=xJ hT (i:=1+r) (by omega)
              rwa [<- Nat.add_assoc]at this
             obtain⟨u,H5⟩:∃ u,u=ws[1+r]'(by omega):=⟨_,rfl⟩;have HU:=Kh H5;rw[<- H5]at h0;clear H5;have a4:=iO BB wo (.slice ra bn rc) bl u H3.row b5;unfold gD at a4;rw[<- g3.out]at a4;have g0:=Kh a4;clear a4;go_wp2_with fail;refine g0.out.mono ?_;rintro e w4 ⟨s4,c4,rfl,h4,H2⟩;have d7:=a1.out.kept H2 (by simp);go_wp2_with (at_builtin;refine app1 rfl (.tmp 92) (.tmp 96) _ rfl nW b2 _ nl svg rfl d7.own _ rfl rfl ?c1 ?c2 ?c3 ?_)
             case c1=>unfold maxLen;omega
             case c2=>omega
             case c3=>have:=H2.size;omega
             intro sl5 c5 w5 h9 H9 _;obtain⟨d0,H4⟩:=a1.out.push (us:=bl++[u]) H2 h4 h9 H9;have c8:=fun q (e:(Value.slice sg nl cg).ownBlock=some q)=>(a1.out.own.lt q e).1;have H8:=zS a1.out.own (e':=9) (by decide);have H1:=zS a1.out.own (e':=28) (by decide);have f3:=hT.kept H4 (fun q e=>.inr (H8 q e));have b4:=H3.kept H4 (fun q e=>.inr (H8 q e));have f6:=Kh (h3.out.kept H4 (fun q e=>.inr ⟨H8 q e,H1 q e⟩));have c6:=Kh (h5.out.kept H4 (fun q e=>.inl (by have:=c8 q e;omega)));have f1:=zA hg H4 (fun q e=>by have:=c8 q e;have:=e4.out;omega);have j0:=H4.size;have f5:=Kh d0;clear h4 h9 H2 H9 H4 d7 h0 d0 hT H3 H8 H1 c8;go_wp2;go_roundw
             case rel =>
              refine⟨r+1,nl+1,sl5,c5,svg++[Value.slice s4 (bn+1) c4],by go_num,by omega,rfl,?_,f6.out,c6.out,b4,f3,f1,by omega⟩;have e9:(ws.drop 1)[r]'(by rw[List.length_drop];omega)=u:=by rw[HU.out];simp[Nat.add_comm]
              rw[yC (fun u=>bl++[u]) _ r (by rw[List.length_drop];omega),e9,<- List.append_assoc];exact f5.out
             case measure=>simp[intOf];omega
            ·obtain rfl:r=ws.length - 1:=by omega
             rw[List.take_of_length_le (l:=ws.drop 1) (by rw[List.length_drop];omega),a6.out,<- nT a2]at a1;go_wp2;go_roundw
             case rel=>exact⟨x+1,nl,sg,cg,svg,by go_num,by omega,rfl,a1.out,h3.out,h5.out,hT,hg,H6⟩
             case measure=>simp[intOf];omega
          ·obtain rfl:x=p:=by omega
           rw[a0.out,List.take_length,<- i7.out.1]at a1;have f8:=Kh (LRead.of a1.out);have k5:=Kh a1.out.len;clear hlt;go_wp2;go_roundg (m+1 - (q+1))
           case measure=>have:=f9.out;omega
           case rel=>exact⟨q+1,n,nl,sl,c,svs,sg,cg,svg,by have:=f9.out;omega,by go_num,rfl,rfl,h3.out,f8.out,k5,hT,hg,by omega⟩
      ·obtain rfl:q=m+1:=by have:=f9.out;omega
       have hl:=h3.out.len;go_wp2;go_ret;exact⟨sl,c,svs,by rw[<- hl];rfl,by rw[<- hl];exact RowT.of_owns h3.out.own,h3.out.rows,hg⟩
def cnt (letters:Nat):Nat->Int×Int
 | 0=>(0,1)
 | r+1=>(min ((cnt letters r).1+(cnt letters r).2) 900,min ((cnt letters r).2 * letters) 900)
theorem qBY (letters:Nat):∀ r,0<=(cnt letters r).1/\(cnt letters r).1<=900/\0<=(cnt letters r).2/\(cnt letters r).2<=900
 | 0=>by simp[cnt]
 | r+1=>by
  have h:=qBY letters r
  have h2:0<=(cnt letters r).2 * (letters:Int):=Int.mul_nonneg h.2.2.1 (by omega)
  simp only[cnt];omega
theorem mR (n:Int)(w:World):Calls Try.prog 116 #[.int .i64 n] w fun e w'=>e=.returned (.int .i64 (min n 900))/\w=w':=by
 go_enter Try.func116,Try.ntmps116;go_wp2
 all_goals (go_ret;exact⟨yA (by omega),rfl⟩)
theorem qBX (letters:Nat)(k:Int)(w:World)(h6:letters<=6)(hk:-1<=k)(hk8:k<=8):
  Calls Try.prog 115 #[.int .i64 letters,.int .i64 k] w fun e w'=>e=.returned (.int .i64 (cnt letters (k+1).toNat).1)/\w=w':=by
 obtain⟨r,hr⟩:∃ r:Nat,k+1=r:=⟨(k+1).toNat,by omega⟩;have h0:r<=9:=by omega
 have HR:=Kh hr;have e0:(k+1).toNat=r:=by omega
 rw[e0];obtain rfl:k=(r:Int) - 1:=by omega
 clear e0 hr;go_enter Try.func115,Try.ntmps115;go_wp2
 go_loop [5,6,9] (fun t p i=>∃ n:Nat,n<=r/\i=.int .i64 n/\t=.int .i64 (cnt letters n).1/\p=.int .i64 (cnt letters n).2) (fun _ _ i=>r - (intOf i).toNat)
 case atStart=>exact⟨0,Nat.zero_le _,rfl,rfl,rfl⟩
 case round =>
  obtain⟨n,hn,rfl,rfl,rfl⟩:=hrel;have hb:=qBY letters n;obtain⟨t,ht⟩:∃ t,t=(cnt letters n).1:=⟨_,rfl⟩;obtain⟨p,hp⟩:∃ p,p=(cnt letters n).2:=⟨_,rfl⟩;rw[<- ht,<- hp]at hb ⊢;have h1:cnt letters (n+1)=(min (t+p) 900,min (p * letters) 900):=by rw[ht,hp];rfl
  have HT:=Kh ht;have HP:=Kh hp;have H1:=Kh h1;obtain⟨b1,b2,b3,b4⟩:=hb;have h3:0<=p * (letters:Int):=Int.mul_nonneg b3 (by omega)
  have h2:p * (letters:Int)<=5400:=by
   have:=Int.mul_le_mul b4 (show (letters:Int)<=6 by omega) (by omega) (by omega);omega
  clear ht hp h1;by_cases hlt:n<r
  ·go_wp2_with fail
   refine(mR _ _).mono ?_;rintro e w' ⟨rfl,rfl⟩;go_wp2_with fail;refine(mR _ _).mono ?_;rintro e w' ⟨rfl,rfl⟩;go_wp2
   go_round
   case rel=>exact⟨n+1,by omega,by go_num,by rw[H1.out],by rw[H1.out]⟩
   case measure=>simp[intOf];omega
  ·go_wp2
   go_ret;obtain rfl:n=r:=by omega
   exact⟨by rw[<- HT.out];rfl,rfl⟩
def chn (ne:Int):Nat->Int×Int
 | 0=>(ne+1,(ne+1) * (ne+1))
 | r+1=>(min ((chn ne r).1+(chn ne r).2) 900,min (chn ne r).2 900 * ne)
theorem qEW (ne:Int)(h:0<=ne)(h9:ne<=900):∀ r,0<=(chn ne r).1/\(chn ne r).1<=901/\0<=(chn ne r).2/\(chn ne r).2<=811801
 | 0=>by
  have h2:(ne+1) * (ne+1)<=901 * 901:=Int.mul_le_mul (by omega) (by omega) (by omega) (by omega)
  have h3:0<=(ne+1) * (ne+1):=Int.mul_nonneg (by omega) (by omega)
  simp only[chn];omega
 | r+1=>by
  have hb:=qEW ne h h9 r
  have h2:min (chn ne r).2 900 * ne<=900 * 900:=Int.mul_le_mul (by omega) h9 h (by omega)
  have h3:0<=min (chn ne r).2 900 * ne:=Int.mul_nonneg (by omega) h
  simp only[chn];omega
def gO (kind:Int)(letters:Nat)(k m:Int):Int :=
 let ne:=(cnt letters (k+1).toNat).1 - 1
 let sh:=(cnt letters k.toNat).1
 if kind=1 then ne+1 else if kind=2\/kind=3 then sh+ne else if kind=4 then sh+2 * ne else if kind=5 then sh+3 * ne else if kind=6 then ne else (chn ne (m+1).toNat).1
theorem cnt_pos (letters r:Nat):1<=(cnt letters (r+1)).1:=by
 induction r with
 | zero=>show (1:Int)<=min (0+1) 900;decide
 | succ r ih =>
  have:=qBY letters (r+1);rw[cnt];simp only;omega
theorem size_any (kind:Int)(letters:Nat)(k m:Int)(w:World)(h1:1<=kind)(h7:kind<=7)(h6:letters<=6)(hk:0<=k)(hk8:k<=8)(hm:0<=m)(hm4:m<=4):
  Calls Try.prog 91 #[.int .i64 kind,.int .i64 letters,.int .i64 k,.int .i64 m] w fun e w'=>e=.returned (.int .i64 (gO kind letters k m))/\w=w':=by
 have h5:=qBY letters (k+1).toNat;have h4:=qBY letters k.toNat
 have hp:1<=(cnt letters (k+1).toNat).1:=by
  rw[show (k+1).toNat=k.toNat+1 by omega];exact cnt_pos _ _
 have c1:=fun w=>qBX letters k w h6 (by omega) hk8;have c2:=fun w=>qBX letters (k - 1) w h6 (by omega) (by omega);rw[show k - 1+1=k by omega]at c2
 have hz:∀ a b,(cnt letters (k+1).toNat).1=a->(cnt letters k.toNat).1=b->gO kind letters k m=if kind=1 then a - 1+1 else if kind=2\/kind=3 then b+(a - 1) else if kind=4 then b+2 * (a - 1) else if kind=5 then b+3 * (a - 1) else if kind=6 then a - 1 else (chn (a - 1) (m+1).toNat).1:=by
  intro a b h h';unfold gO;rw[h,h']
 generalize (cnt letters (k+1).toNat).1=a at *
 generalize (cnt letters k.toNat).1=b at *
 have hz:=hz a b rfl rfl;obtain⟨a1,a2,_,_⟩:=h5;obtain⟨b1,b2,_,_⟩:=h4;have C1:=Kh c1;have C2:=Kh c2;have HZ:=Kh hz;clear c1 c2 hz;have h3:kind=1\/kind=2\/kind=3\/kind=4\/kind=5\/kind=6\/kind=7:=by omega
 rcases h3 with rfl|rfl|rfl|rfl|rfl|rfl|rfl
 case inr.inr.inr.inr.inr.inr =>
  obtain⟨q,rfl⟩:∃ q:Nat,m=q:=⟨m.toNat,by omega⟩;obtain⟨ne,rfl⟩:∃ ne,a=ne+1:=⟨a - 1,by omega⟩;have h2:0<=(ne+1) * (ne+1):=Int.mul_nonneg (by omega) (by omega);have h0:(ne+1) * (ne+1)<=901 * 901:=Int.mul_le_mul (by omega) (by omega) (by omega) (by omega);go_enter Try.func91,Try.ntmps91;go_wp2_with fail;refine(C1.out _).mono ?_;rintro e w' ⟨rfl,rfl⟩;go_wp2_with fail;refine(C2.out _).mono ?_;rintro e w' ⟨rfl,rfl⟩;go_wp2
  go_loop [11,12,56] (fun t p i=>∃ n:Nat,n<=q+1/\i=.int .i64 n/\t=.int .i64 (chn ne n).1/\p=.int .i64 (chn ne n).2) (fun _ _ i=>q+1 - (intOf i).toNat)
  case atStart=>exact⟨0,Nat.zero_le _,rfl,rfl,rfl⟩
  case round =>
   obtain⟨n,hn,rfl,rfl,rfl⟩:=hrel;have hb:=qEW ne (by omega) (by omega) n;obtain⟨t,ht⟩:∃ t,t=(chn ne n).1:=⟨_,rfl⟩;obtain⟨p,hp⟩:∃ p,p=(chn ne n).2:=⟨_,rfl⟩;rw[<- ht,<- hp]at hb ⊢;have h1:chn ne (n+1)=(min (t+p) 900,min p 900 * ne):=by rw[ht,hp];rfl
   have HT:=Kh ht;have HP:=Kh hp;have H1:=Kh h1;obtain⟨b1,b2,b3,b4⟩:=hb;have h9:0<=min p 900 * ne:=Int.mul_nonneg (by omega) (by omega);have h8:min p 900 * ne<=900 * 900:=Int.mul_le_mul (by omega) (by omega) (by omega) (by omega);clear ht hp h1 h2 h0;by_cases hlt:n<q+1
   ·go_wp2_with fail
    refine(mR _ _).mono ?_;rintro e w' ⟨rfl,rfl⟩;go_wp2_with fail;refine(mR _ _).mono ?_;rintro e w' ⟨rfl,rfl⟩;go_wp2
    go_round
    case rel=>exact⟨n+1,by omega,by go_num,by rw[H1.out],by rw[H1.out]⟩
    case measure=>simp[intOf];omega
   ·go_wp2
    go_ret;obtain rfl:n=q+1:=by omega
    exact⟨yA (by first|exact HT.out|(rw[HZ.out];simp only[Int.reduceEq,if_false,or_self,show ne+1 - 1=ne by omega,show ((q:Int)+1).toNat=q+1 by omega];exact HT.out)),rfl⟩
 all_goals
  go_enter Try.func91,Try.ntmps91;go_wp2_with fail;refine(C1.out _).mono ?_;rintro e w' ⟨rfl,rfl⟩;go_wp2_with fail;refine(C2.out _).mono ?_;rintro e w' ⟨rfl,rfl⟩;go_wp2;go_ret;exact⟨yA (by rw[HZ.out];simp),rfl⟩
def tI (kind letters k m:Int):Bool :=
 decide (1<=kind/\kind<=7/\1<=letters/\letters<=6/\(if kind=1 then 0 else 1)<=k/\k<=8/\(if kind=7 then 0<=m/\m<=4 else m=0))
theorem validOrder_any (kind letters k m:Int)(w:World):
  Calls Try.prog 90 #[.int .i64 kind,.int .i64 letters,.int .i64 k,.int .i64 m] w fun e w'=>e=.returned (.bool (tI kind letters k m))/\w=w':=by
 by_cases h1:kind=1
 ·subst h1
  go_enter Try.func90,Try.ntmps90;go_wp2
  all_goals (go_ret;refine⟨yB ?_,rfl⟩;unfold tI;first|(symm;rw[decide_eq_false_iff_not];simp;omega)|(rw[eq_comm,Bool.eq_iff_iff];simp;omega))
 ·by_cases h7:kind=7
  ·subst h7
   go_enter Try.func90,Try.ntmps90;go_wp2
   all_goals (go_ret;refine⟨yB ?_,rfl⟩;unfold tI;first|(symm;rw[decide_eq_false_iff_not];simp;omega)|(rw[eq_comm,Bool.eq_iff_iff];simp;omega))
  ·have h2:(kind == 1)=false:=by simpa using h1
   have h0:(kind == 7)=false:=by simpa using h7
   have H1:=Kh h1;have H7:=Kh h7;clear h1 h7;go_enter Try.func90,Try.ntmps90;go_wp2
   all_goals (go_ret;refine⟨yB ?_,rfl⟩;unfold tI;simp only[if_neg H1.out,if_neg H7.out];first|(symm;rw[decide_eq_false_iff_not];omega)|(rw[eq_comm,Bool.eq_iff_iff];simp;omega))
end Go.Proofs.Ytjfdomfendbhfaa
namespace Go.Proofs.Ytjfdomfendbhfaa
def xG (letters k:Nat):List (List Int):=upTo letters (k+1)
def famP (kind:Int)(letters k m:Nat):List (List (List Int)) :=
 let W:=xG letters k
 let S:=upTo letters k
 if kind=1 then W.map oneB else if kind=2 then S.map oneB++(W.drop 1).map preB else if kind=3 then S.map oneB++(W.drop 1).map sufB
 else if kind=4 then S.map oneB++(W.drop 1).map sufB++(W.drop 1).map preB else if kind=5 then S.map oneB++(W.drop 1).map sufB++(W.drop 1).map preB++(W.drop 1).map facB
 else if kind=6 then (W.drop 1).map wK else chL W (m+1)
theorem min_add (a b:Int)(ha:0<=a)(hb:0<=b):min (min a 900+min b 900) 900=min (a+b) 900:=by omega
theorem min_mul (b:Nat)(L:Nat)(h:1<=L):min (min (b:Int) 900 * L) 900=min ((b * L:Nat):Int) 900:=by
 rcases Nat.lt_or_ge b 900 with hb|hb
 ·rw[Int.min_eq_left (a:=(b:Int)) (by omega),Int.natCast_mul]
 ·have h2:b * 1<=b * L:=Nat.mul_le_mul_left _ h
  rw[Int.min_eq_right (a:=(b:Int)) (by omega)];obtain⟨P,hP⟩:∃ P,P=b * L:=⟨_,rfl⟩;rw[<- hP]at h2 ⊢;omega
theorem qGL (letters:Nat)(h:1<=letters):∀ r,(cnt letters r).1=min ((upTo letters r).length:Int) 900/\(cnt letters r).2=min ((letters ^ r:Nat):Int) 900
 | 0=>by simp only[cnt,upTo,List.range_zero,List.flatMap_nil,List.length_nil,Nat.pow_zero];decide
 | r+1=>by
  obtain⟨h1,h2⟩:=qGL letters h r
  rw[cnt]
  simp only
  rw[h1,h2]
  refine⟨?_,?_⟩
  ·rw[min_add _ _ (by omega) (by omega),xK,List.length_append,vN];push_cast;rfl
  ·rw[min_mul _ _ h,Nat.pow_succ]
theorem qGO (ws:List (List Int))(i:Nat):(chL ws (i+1)).length=(chL ws i).length+(chB ws i).length * ws.length:=by rw[chL,List.length_append,vT]
theorem chB_len (ws:List (List Int))(i:Nat):(chB ws (i+1)).length=(chB ws i).length * (ws.length - 1):=by rw[chB,vT,List.length_drop]
theorem qHW {ws:List (List Int)}(hw:1<=ws.length)(h9:ws.length<=900):∀ r,((chn ((ws.length:Int) - 1) r).1=((chL ws r).length:Int)/\(chn ((ws.length:Int) - 1) r).2=(((chB ws r).length * ws.length:Nat):Int))\/((chn ((ws.length:Int) - 1) r).1=900/\900<=(chL ws r).length)
 | 0=>by
  refine .inl ⟨?_,?_⟩
  ·simp[chn,chL]
  ·rw[chn]
   simp only[chB,List.length_map]
   rw[show (ws.length:Int) - 1+1=ws.length by omega];push_cast;rfl
 | r+1=>by
  have hb:=qEW ((ws.length:Int) - 1) (by omega) (by omega) r
  rw[chn]
  simp only
  rcases qHW hw h9 r with ⟨e1,e2⟩|⟨e1,e2⟩
  ·rw[e1,e2,qGO,chB_len]
   obtain⟨P,hP⟩:∃ P,P=(chB ws r).length * ws.length:=⟨_,rfl⟩
   rw[<- hP]
   rcases Nat.lt_or_ge ((chL ws r).length+P) 900 with h|h
   ·refine .inl ⟨by omega,?_⟩
    rw[Int.min_eq_left (by omega)]
    have e3:(chB ws r).length * (ws.length - 1) * ws.length=P * (ws.length - 1):=by rw[hP,Nat.mul_assoc,Nat.mul_assoc,Nat.mul_comm (ws.length - 1)]
    rw[e3]
    have e4:(ws.length:Int) - 1=((ws.length - 1:Nat):Int):=by omega
    rw[e4];push_cast;rfl
   ·exact .inr ⟨by omega,by omega⟩
  ·refine .inr ⟨by omega,?_⟩
   rw[qGO];omega
theorem qGN (ne:Int)(h:0<=ne)(h9:ne<=900)(h3:300<=ne):∀ r,300<(chn ne r).1
 | 0=>by simp only[chn];omega
 | r+1=>by
  have:=qGN ne h h9 h3 r
  have hb:=qEW ne h h9 r
  rw[chn];simp only;omega
theorem qFL {kind:Int}{letters k m:Nat}(h1:1<=kind)(h7:kind<=7)(hl:1<=letters)(hk:kind≠1->1<=k):(300<gO kind letters k m ↔ 300<(famP kind letters k m).length):=by
 obtain⟨c1,_⟩:=qGL letters hl (k+1);obtain⟨c2,_⟩:=qGL letters hl k;have e1:(((k:Nat):Int)+1).toNat=k+1:=by omega
 have e2:((k:Nat):Int).toNat=k:=by omega
 have e3:(((m:Nat):Int)+1).toNat=m+1:=by omega
 have hw:1<=(xG letters k).length:=pW hl;have hS:(upTo letters k).length<=(xG letters k).length:=by rw[xG,xK,List.length_append];omega
 unfold gO famP;simp only;rw[e1,e2,e3,c1,c2]
 change 1<=(xG letters k).length at hw
 rw[show upTo letters (k+1)=xG letters k from rfl];obtain⟨W,hW⟩:∃ W,W=xG letters k:=⟨_,rfl⟩;rw[<- hW]at hw hS ⊢;by_cases k1:kind=1
 ·rw[if_pos k1,if_pos k1,List.length_map];omega
 rw[if_neg k1,if_neg k1];by_cases k2:kind=2
 ·rw[if_pos (.inl k2),if_pos k2];simp only[List.length_append,List.length_map,List.length_drop];omega
 by_cases k3:kind=3
 ·rw[if_pos (.inr k3),if_neg k2,if_pos k3];simp only[List.length_append,List.length_map,List.length_drop];omega
 rw[if_neg (by omega),if_neg k2,if_neg k3];by_cases k4:kind=4
 ·rw[if_pos k4,if_pos k4];simp only[List.length_append,List.length_map,List.length_drop];omega
 rw[if_neg k4,if_neg k4];by_cases k5:kind=5
 ·rw[if_pos k5,if_pos k5];simp only[List.length_append,List.length_map,List.length_drop];omega
 rw[if_neg k5,if_neg k5];by_cases k6:kind=6
 ·rw[if_pos k6,if_pos k6];simp only[List.length_map,List.length_drop];omega
 rw[if_neg k6,if_neg k6];rcases Nat.lt_or_ge W.length 900 with h9|h9
 ·rw[Int.min_eq_left (by omega)]
  rcases qHW (ws:=W) hw (by omega) (m+1) with ⟨e,_⟩|⟨e,e'⟩
  ·rw[e];omega
  ·rw[e];omega
 ·rw[Int.min_eq_right (by omega)]
  have hb:=qGN 899 (by omega) (by omega) (by omega) (m+1);have hp:=(aR W 0 (m+1)).length_le;rw[Nat.zero_add]at hp;have e:(chL W 0).length=W.length:=by simp[chL]
  have:(900:Int) - 1=899:=by decide
  rw[this];omega
open Go.RowKit
def famE (kind letters k m:Int):Int:=if tI kind letters k m=false then 1 else if kind=6/\8<k+2\/300<gO kind letters.toNat k m then 3 else 0
def famL (kind letters k m:Int):List (List (List Int)):=if famE kind letters k m=0 then famP kind letters.toNat k.toNat m.toNat else []
def vE (w:World)(er:Int)(ps:List (List (List Int)))(e:Ending)(w':World):Prop :=
 ∃ (sa:Option Addr) (sc:Nat) (svs:List Value),e=.returned (.tuple #[.slice sa ps.length sc,.int .i64 er])/\RowT w'.heap.size 28 w' (.slice sa ps.length sc) svs/\wH w'.heap.size 9 strs w' svs ps/\w.grownBy w' none
theorem vE.nil {w w':World}{er:Int}(hg:w.grownBy w' none):vE w er [] (.returned (.tuple #[.slice none 0 0,.int .i64 er])) w':=⟨none,0,[],rfl,.inl ⟨rfl,rfl⟩,wH.nil,hg⟩
theorem famP_1 (l k m:Nat):[]++((upTo l (k+1)).drop 0).map oneB=famP 1 l k m:=rfl
theorem famP_2 (l k m:Nat):([]++((upTo l (k+1)).drop 0).map oneB)++((upTo l (k+1+1)).drop 1).map preB=famP 2 l (k+1) m:=rfl
theorem famP_3 (l k m:Nat):([]++((upTo l (k+1)).drop 0).map oneB)++((upTo l (k+1+1)).drop 1).map sufB=famP 3 l (k+1) m:=rfl
theorem famP_4 (l k m:Nat):(([]++((upTo l (k+1)).drop 0).map oneB)++((upTo l (k+1+1)).drop 1).map sufB)++((upTo l (k+1+1)).drop 1).map preB=famP 4 l (k+1) m:=rfl
theorem famP_5 (l k m:Nat):((([]++((upTo l (k+1)).drop 0).map oneB)++((upTo l (k+1+1)).drop 1).map sufB)++((upTo l (k+1+1)).drop 1).map preB)++((upTo l (k+1+1)).drop 1).map facB=famP 5 l (k+1) m:=rfl
theorem famP_6 (l k m:Nat):((upTo l (k+1)).drop 1).map wK=famP 6 l k m:=rfl
theorem qHT (l k m:Nat):chL (upTo l (k+1)) (m+1)=famP 7 l k m:=rfl
theorem familyP_any (kind letters k m:Int)(w:World):Calls Try.prog 72 #[.int .i64 kind,.int .i64 letters,.int .i64 k,.int .i64 m] w (vE w (famE kind letters k m) (famL kind letters k m)):=by
 have h5:=Kh (validOrder_any kind letters k m w);cases ho:tI kind letters k m with
 | false =>
  have e1:famE kind letters k m=1:=by rw[famE,if_pos ho]
  have e2:famL kind letters k m=[]:=by rw[famL,e1];rfl
  rw[e1,e2];rw[ho]at h5;clear e1 e2 ho;go_enter Try.func72,Try.ntmps72;go_wp2_with fail;refine h5.out.mono ?_;rintro e w ⟨rfl,rfl⟩;go_wp2;refine bodyPost_ret (v:=.tuple #[.slice none 0 0,.int .i64 1]) (by simp[results,Try.results72,go_sem]) rfl ?_;exact vE.nil (zL _ _)
 | true =>
 rw[ho]at h5;have H7:=ho;simp only[tI,decide_eq_true_eq]at H7;obtain⟨H9,H8,a3,a2,hk,H5,hm⟩:=H7;have a1:0<=m/\m<=4:=by split at hm<;>omega
 have H6:0<=k:=by split at hk<;>omega
 obtain⟨L,rfl⟩:∃ L:Nat,letters=(L:Int):=⟨letters.toNat,by omega⟩;obtain⟨K,rfl⟩:∃ K:Nat,k=(K:Int):=⟨k.toNat,by omega⟩;obtain⟨M,rfl⟩:∃ M:Nat,m=(M:Int):=⟨m.toNat,by omega⟩;have h7:=Kh (size_any kind L K M w H9 H8 (by omega) (by omega) (by omega) (by omega) (by omega));have H3:=qFL (letters:=L) (k:=K) (m:=M) H9 H8 (by omega) (fun h=>by rw[if_neg h]at hk;omega);have a0:=Kh H3;have a5:=Kh ho;by_cases h6:kind=6/\8<(K:Int)+2
 ·have e1:famE kind L K M=3:=by rw[famE,if_neg (by rw[ho];simp),if_pos (.inl h6)]
  have e2:famL kind L K M=[]:=by rw[famL,e1];rfl
  rw[e1,e2];obtain⟨rfl,a6⟩:=h6;clear e1 e2 ho H3 hm hk;go_enter Try.func72,Try.ntmps72;go_wp2_with fail;refine h5.out.mono ?_;rintro e w ⟨rfl,rfl⟩;go_wp2;refine bodyPost_ret (v:=.tuple #[.slice none 0 0,.int .i64 3]) (by simp[results,Try.results72,go_sem]) rfl ?_;exact vE.nil (zL _ _)
 have h0:kind=6->(K:Int)+2<=8:=fun h=>by
  have:¬ 8<(K:Int)+2:=fun h2=>h6 ⟨h,h2⟩;omega
 by_cases hs:300<gO kind L K M
 ·have e1:famE kind L K M=3:=by rw[famE,if_neg (by rw[ho];simp),if_pos (.inr (by simpa using hs))]
  have e2:famL kind L K M=[]:=by rw[famL,e1];rfl
  rw[e1,e2];obtain⟨sz,H0⟩:∃ sz,sz=gO kind L K M:=⟨_,rfl⟩;rw[<- H0]at hs h7;clear e1 e2 ho H3 H0 hm hk a0 h6;by_cases h66:kind=6
  ·have hg:=h0 h66
   subst h66;go_enter Try.func72,Try.ntmps72;go_wp2_with fail;refine h5.out.mono ?_;rintro e w ⟨rfl,rfl⟩;go_wp2_with fail;refine h7.out.mono ?_;rintro e w ⟨rfl,rfl⟩;go_wp2;refine bodyPost_ret (v:=.tuple #[.slice none 0 0,.int .i64 3]) (by simp[results,Try.results72,go_sem]) rfl ?_;exact vE.nil (zL _ _)
  ·have q6:(kind == 6)=false:=by rw[beq_eq_false_iff_ne];exact h66
   go_enter Try.func72,Try.ntmps72;go_wp2_with fail;refine h5.out.mono ?_;rintro e w ⟨rfl,rfl⟩;go_wp2_with fail;refine h7.out.mono ?_;rintro e w ⟨rfl,rfl⟩;go_wp2;refine bodyPost_ret (v:=.tuple #[.slice none 0 0,.int .i64 3]) (by simp[results,Try.results72,go_sem]) rfl ?_;exact vE.nil (zL _ _)
 have e1:famE kind L K M=0:=by
  rw[famE,if_neg (by rw[ho];simp),if_neg];rintro (h|h)
  ·exact h6 h
  ·exact hs (by simpa using h)
 have e2:famL kind L K M=famP kind L K M:=by rw[famL,e1];simp
 rw[e1,e2];have h4:(famP kind L K M).length<=300:=by have:=H3;omega
 obtain⟨sz,H0⟩:∃ sz,sz=gO kind L K M:=⟨_,rfl⟩;rw[<- H0]at hs h7;clear e1 e2 ho H3 H0 hm a0 h6;have H4:kind=1\/kind=2\/kind=3\/kind=4\/kind=5\/kind=6\/kind=7:=by omega
 rcases H4 with rfl|rfl|rfl|rfl|rfl|rfl|rfl
 ·have HE:=Kh (ends1_any L K w (by omega) (by omega) (by omega))
  rw[famP_1 L K M]at HE;have h9:=Kh h4;clear h4 h0 hk;obtain⟨PS,h3⟩:∃ PS,PS=famP 1 L K M:=⟨_,rfl⟩;rw[<- h3]at HE ⊢;clear h3 h9;go_enter Try.func72,Try.ntmps72;go_wp2_with fail;refine h5.out.mono ?_;rintro e w ⟨rfl,rfl⟩;go_wp2_with fail;refine h7.out.mono ?_;rintro e w ⟨rfl,rfl⟩;go_wp2_with fail;refine HE.out.mono ?_;rintro e w2 ⟨sa,sc,svs,rfl,hr,h1,hg⟩;have HR:=Kh hr;have h8:=Kh h1;clear hr h1;go_wp2;refine bodyPost_ret (v:=.tuple #[.slice sa PS.length sc,.int .i64 0]) (by simp[results,Try.results72,go_sem]) rfl ?_;exact⟨sa,sc,svs,rfl,HR.out,h8.out,hg⟩
 ·obtain⟨K,rfl⟩:∃ k',K=k'+1:=⟨K - 1,by simp at hk;omega⟩
  have HE:=Kh (ends2_any L K (K+1) w (by omega) (by omega) (by omega) rfl);rw[famP_2 L K M]at HE;obtain⟨KK,H1⟩:∃ KK,KK=K+1:=⟨_,rfl⟩;rw[<- H1]at HE h7 h5 h4 h0 ⊢;have H2:KK<=8:=by omega
  clear H1 H6 H5;have h9:=Kh h4;clear h4 h0 hk;obtain⟨PS,h3⟩:∃ PS,PS=famP 2 L KK M:=⟨_,rfl⟩;rw[<- h3]at HE ⊢;clear h3 h9;go_enter Try.func72,Try.ntmps72;go_wp2_with fail;refine h5.out.mono ?_;rintro e w ⟨rfl,rfl⟩;go_wp2_with fail;refine h7.out.mono ?_;rintro e w ⟨rfl,rfl⟩;go_wp2_with fail;refine HE.out.mono ?_;rintro e w2 ⟨sa,sc,svs,rfl,hr,h1,hg⟩;have HR:=Kh hr;have h8:=Kh h1;clear hr h1;go_wp2;refine bodyPost_ret (v:=.tuple #[.slice sa PS.length sc,.int .i64 0]) (by simp[results,Try.results72,go_sem]) rfl ?_;exact⟨sa,sc,svs,rfl,HR.out,h8.out,hg⟩
 ·obtain⟨K,rfl⟩:∃ k',K=k'+1:=⟨K - 1,by simp at hk;omega⟩
  have HE:=Kh (ends3_any L K (K+1) w (by omega) (by omega) (by omega) rfl);rw[famP_3 L K M]at HE;obtain⟨KK,H1⟩:∃ KK,KK=K+1:=⟨_,rfl⟩;rw[<- H1]at HE h7 h5 h4 h0 ⊢;have H2:KK<=8:=by omega
  clear H1 H6 H5;have h9:=Kh h4;clear h4 h0 hk;obtain⟨PS,h3⟩:∃ PS,PS=famP 3 L KK M:=⟨_,rfl⟩;rw[<- h3]at HE ⊢;clear h3 h9;go_enter Try.func72,Try.ntmps72;go_wp2_with fail;refine h5.out.mono ?_;rintro e w ⟨rfl,rfl⟩;go_wp2_with fail;refine h7.out.mono ?_;rintro e w ⟨rfl,rfl⟩;go_wp2_with fail;refine HE.out.mono ?_;rintro e w2 ⟨sa,sc,svs,rfl,hr,h1,hg⟩;have HR:=Kh hr;have h8:=Kh h1;clear hr h1;go_wp2;refine bodyPost_ret (v:=.tuple #[.slice sa PS.length sc,.int .i64 0]) (by simp[results,Try.results72,go_sem]) rfl ?_;exact⟨sa,sc,svs,rfl,HR.out,h8.out,hg⟩
 ·obtain⟨K,rfl⟩:∃ k',K=k'+1:=⟨K - 1,by simp at hk;omega⟩
  have HE:=Kh (ends4_any L K (K+1) w (by omega) (by omega) (by omega) rfl);rw[famP_4 L K M]at HE;obtain⟨KK,H1⟩:∃ KK,KK=K+1:=⟨_,rfl⟩;rw[<- H1]at HE h7 h5 h4 h0 ⊢;have H2:KK<=8:=by omega
  clear H1 H6 H5;have h9:=Kh h4;clear h4 h0 hk;obtain⟨PS,h3⟩:∃ PS,PS=famP 4 L KK M:=⟨_,rfl⟩;rw[<- h3]at HE ⊢;clear h3 h9;go_enter Try.func72,Try.ntmps72;go_wp2_with fail;refine h5.out.mono ?_;rintro e w ⟨rfl,rfl⟩;go_wp2_with fail;refine h7.out.mono ?_;rintro e w ⟨rfl,rfl⟩;go_wp2_with fail;refine HE.out.mono ?_;rintro e w2 ⟨sa,sc,svs,rfl,hr,h1,hg⟩;have HR:=Kh hr;have h8:=Kh h1;clear hr h1;go_wp2;refine bodyPost_ret (v:=.tuple #[.slice sa PS.length sc,.int .i64 0]) (by simp[results,Try.results72,go_sem]) rfl ?_;exact⟨sa,sc,svs,rfl,HR.out,h8.out,hg⟩
 ·obtain⟨K,rfl⟩:∃ k',K=k'+1:=⟨K - 1,by simp at hk;omega⟩
  have HE:=Kh (ends5_any L K (K+1) w (by omega) (by omega) (by omega) rfl);rw[famP_5 L K M]at HE;obtain⟨KK,H1⟩:∃ KK,KK=K+1:=⟨_,rfl⟩;rw[<- H1]at HE h7 h5 h4 h0 ⊢;have H2:KK<=8:=by omega
  clear H1 H6 H5;have h9:=Kh h4;clear h4 h0 hk;obtain⟨PS,h3⟩:∃ PS,PS=famP 5 L KK M:=⟨_,rfl⟩;rw[<- h3]at HE ⊢;clear h3 h9;go_enter Try.func72,Try.ntmps72;go_wp2_with fail;refine h5.out.mono ?_;rintro e w ⟨rfl,rfl⟩;go_wp2_with fail;refine h7.out.mono ?_;rintro e w ⟨rfl,rfl⟩;go_wp2_with fail;refine HE.out.mono ?_;rintro e w2 ⟨sa,sc,svs,rfl,hr,h1,hg⟩;have HR:=Kh hr;have h8:=Kh h1;clear hr h1;go_wp2;refine bodyPost_ret (v:=.tuple #[.slice sa PS.length sc,.int .i64 0]) (by simp[results,Try.results72,go_sem]) rfl ?_;exact⟨sa,sc,svs,rfl,HR.out,h8.out,hg⟩
 ·have a4:=h0 rfl
  have HE:=Kh (pieces_any L K w (by omega) (by omega) (by simp at hk;omega) (by omega));rw[famP_6 L K M]at HE;have h9:=Kh h4;clear h4 h0 hk;obtain⟨PS,h3⟩:∃ PS,PS=famP 6 L K M:=⟨_,rfl⟩;rw[<- h3]at HE ⊢;clear h3 h9;go_enter Try.func72,Try.ntmps72;go_wp2_with fail;refine h5.out.mono ?_;rintro e w ⟨rfl,rfl⟩;go_wp2_with fail;refine h7.out.mono ?_;rintro e w ⟨rfl,rfl⟩;go_wp2_with fail;refine HE.out.mono ?_;rintro e w2 ⟨sa,sc,svs,rfl,hr,h1,hg⟩;have HR:=Kh hr;have h8:=Kh h1;clear hr h1;go_wp2;refine bodyPost_ret (v:=.tuple #[.slice sa PS.length sc,.int .i64 0]) (by simp[results,Try.results72,go_sem]) rfl ?_;exact⟨sa,sc,svs,rfl,HR.out,h8.out,hg⟩
 ·have HE:=Kh (chains_any L K M w (by omega) (by omega) (by omega) (by omega) (by rw[qHT L K M];omega) (mD (by omega) (by simp at hk;omega)))
  rw[qHT L K M]at HE;have h9:=Kh h4;clear h4 h0 hk;obtain⟨PS,h3⟩:∃ PS,PS=famP 7 L K M:=⟨_,rfl⟩;rw[<- h3]at HE ⊢;clear h3 h9;go_enter Try.func72,Try.ntmps72;go_wp2_with fail;refine h5.out.mono ?_;rintro e w ⟨rfl,rfl⟩;go_wp2_with fail;refine h7.out.mono ?_;rintro e w ⟨rfl,rfl⟩;go_wp2_with fail;refine HE.out.mono ?_;rintro e w2 ⟨sa,sc,svs,rfl,hr,h1,hg⟩;have HR:=Kh hr;have h8:=Kh h1;clear hr h1;go_wp2;refine bodyPost_ret (v:=.tuple #[.slice sa PS.length sc,.int .i64 0]) (by simp[results,Try.results72,go_sem]) rfl ?_;exact⟨sa,sc,svs,rfl,HR.out,h8.out,hg⟩
theorem validRef_any (B:Nat)(w:World)(pv cv:Value)(root:Int)(cs:List ChoV)(i:Nat)(r:Int)(h:oZ B w cv cs)(hi:i<cs.length):
  Calls Try.prog 37 #[.agg #[pv,cv,.int .i64 root],.int .i64 (i:Int),.int .i64 r] w fun e w'=>e=.returned (.bool (refB cs i (cs.getD i default).p r))/\w.grownBy w' none:=by
 obtain⟨b,off,cap,rfl,hb,hc,hm,h9⟩:=h.at_ (by omega);have H6:cap<=9223372036854775807:=by unfold maxLen at hm;omega
 obtain⟨n,hn⟩:∃ n,n=cs.length:=⟨_,rfl⟩;have HN:=Kh hn;have h8:=hi;rw[<- hn]at hc hi ⊢;have h4:=Ga w (.cells #[pv,.slice (some ⟨b,off,none⟩) n cap,.int .i64 root] 25) none;have h5:=heap_alloc_new w (.cells #[pv,.slice (some ⟨b,off,none⟩) n cap,.int .i64 root] 25);obtain⟨wA,h7⟩:∃ w1,w1=w.alloc (.cells #[pv,.slice (some ⟨b,off,none⟩) n cap,.int .i64 root] 25):=⟨_,rfl⟩;obtain⟨P,hP⟩:∃ P,P=w.heap.size:=⟨_,rfl⟩;rw[<- h7]at h4 h5;rw[<- hP]at h5;have h3:=h9.kept h4 (by simp);obtain⟨p0,p1,p2⟩:=zM h5;have c1:=h3.p i h8;have H2:=Kh h3;have H0:=Kh h7;have H1:=Kh hP;have h6:=Kh h4;obtain⟨x,hx⟩:∃ x,x=(cs.getD i default).p:=⟨_,rfl⟩;have HX:=Kh hx;rw[<- hx]at c1;rw[<- hx];have H5:(i:Int)<n:=by omega
 have H4:(0:Int)<=i:=by omega
 clear h h9 h3 h4 h5 h7 hP hx hn h8;go_enter Try.func37,Try.ntmps37;go_upto_region 1 with fail;rw[<- H0.out,<- H1.out];by_cases h0:r<0
 ·have HR:Hid (refB cs i x r=false):=Kh (by simp[refB];omega)
  go_wp2;go_ret;exact⟨yB HR.out.symm,h6.out⟩
 by_cases h1:1+(i:Int)<r
 ·have HR:Hid (refB cs i x r=false):=Kh (by simp[refB];omega)
  go_wp2;go_ret;exact⟨yB HR.out.symm,h6.out⟩
 by_cases h2:r<2
 ·have HR:Hid (refB cs i x r=true):=Kh (by simp[refB];omega)
  have hd:decide (r<2)=true:=by simpa using h2
  go_wp2
  go_quiet (fail)
  go_wp2;go_ret;exact⟨yB (by rw[HR.out]),zA h6.out (by first|exact zO _ none|exact zN _ _ none) (by simp)⟩
 ·have hd:decide (r<2)=false:=by simpa using h2
  obtain⟨q,rfl⟩:∃ q:Nat,r=(q:Int)+2:=⟨(r - 2).toNat,by omega⟩;have c2:=H2.out.p q (by have:=HN.out;omega);have e2:IntKind.i64.wrap ((q:Int)+2 - 2)=(q:Int):=by rw[show (q:Int)+2 - 2=q by omega];exact sO (by unfold maxLen at hm;omega)
  have e3:(q:Int)+2 - 2=(q:Int):=by omega
  have hq:q<n:=by omega
  have H3:(q:Int)<n:=by omega
  obtain⟨y,hy⟩:∃ y,y=(cs.getD q default).p:=⟨_,rfl⟩;rw[<- hy]at c2
  have HR:Hid (refB cs i x ((q:Int)+2)=decide (x<y)):=Kh (by
   have e:((q:Int)+2).toNat - 2=q:=by omega
   simp only[refB,e,<- hy];rw[Bool.eq_iff_iff];simp only[Bool.and_eq_true,decide_eq_true_eq]
   omega)
  clear hy;go_wp2
  go_quiet (fail)
  go_wp2;go_ret;exact⟨yB (by rw[HR.out]),zA h6.out (by first|exact zO _ none|exact zN _ _ none) (by simp)⟩
end Go.Proofs.Ytjfdomfendbhfaa
