/- Part 21 of the proof. -/
import Derived.Test.YtobakifdllameaaQc20
import Derived.Deep.Cut
import Derived.Deep.DeepCutAuto
import Derived.BigQuiet
set_option linter.unusedVariables false
set_option linter.unusedSimpArgs false
set_option maxRecDepth 100000
set_option maxHeartbeats 16000000
namespace Go.Proofs.Ytobakifdllameaa
open Go.RowKit
theorem qGF (B:Nat)(w:World)(vi vp va:Value)(idx per:List Int)(hi:Row B w vi (ints idx))(hp:Row B w vp (ints per))(hl:per.length=idx.length)(a8:PosC idx per)(a7:1<=idx.length):Calls Try.prog 35 #[.agg #[vi,vp,va]] w fun e w'=>e=.returned (.tuple #[.int .i64 (fG idx per),.bool (dB idx per)])/\w.grownBy w' none:=by
 obtain⟨ib,io,ic,rfl,_,i1,i2,ir⟩:=hi.some_ (by rw[zN];omega);obtain⟨pb,po,pc,rfl,_,p1,p2,pr⟩:=hp.some_ (by rw[zN];omega);rw[zN]at i1 p1⊢;rw[zN,hl];rw[hl]at p1;unfold maxLen at i2 p2;obtain⟨n,hn⟩:=Nm idx.length;rw[<-hn]at i1 p1⊢;obtain⟨w1,h4⟩:=Nm (w.alloc (.cells #[.slice (some ⟨ib,io,none⟩) n ic,.slice (some ⟨pb,po,none⟩) n pc,va] 28));have h7:w.grownBy w1 none:=by rw[h4];exact Ga w _ none
 have H0:=heap_alloc_new w (.cells #[.slice (some ⟨ib,io,none⟩) n ic,.slice (some ⟨pb,po,none⟩) n pc,va] 28);obtain⟨P,hP⟩:=Nm w.heap.size;rw[<-h4,<-hP]at H0;obtain⟨q0,q1,q2⟩:=vS H0
 have a6:Hid (∀a,a<n->∃i p:Nat,w1.cell? ⟨ib,io+a,none⟩=some (.int .i64 (i:Int))/\w1.cell? ⟨pb,po+a,none⟩=some (.int .i64 (p:Int))/\idx.getD a 0=(i:Int)/\per.getD a 0=(p:Int)):=Kh (fun a ha=>by
  have h1:=a8 a (by omega);have h2:=zJ (ir.int a (by omega)) h7;have h3:=zJ (pr.int a (by omega)) h7;obtain⟨i,ei⟩:∃i:Nat,idx.getD a 0=(i:Int):=⟨(idx.getD a 0).toNat,by omega⟩;obtain⟨p,ep⟩:∃p:Nat,per.getD a 0=(p:Int):=⟨(per.getD a 0).toNat,by omega⟩;rw[ei]at h2;rw[ep]at h3
  exact⟨i,p,h2,h3,ei,ep⟩)
 obtain⟨h9,H9,a3,HN⟩:=K4 h7 h4 hP hn;obtain⟨rn,h5⟩:=Nm (fG idx per);obtain⟨rb,h6⟩:=Nm (dB idx per);rw[<-h5,<-h6];have a1:=Kh h5;have a2:=Kh h6
 have H2:Hid (∀a,a<=n->vQ idx per a=none->rn=0/\rb=false):=Kh (fun a ha h=>by
  obtain⟨h1,h2⟩:=qDD h (by omega)
  exact⟨by rw[h5,h1],by rw[h6,h2]⟩)
 clear hi hp hl a8 ir pr hn h4 h7 H0 hP q2 h5 h6;go_enter Try.func35,Try.ntmps35;go_upto_region 1 with fail;rw[<-H9.out,<-a3.out];go_wp2
 go_loopg [4,5,9] n (fun gh a4 a5 a9 wr=>∃a c q:Nat,gh+a=n/\a9=.int .i64 a/\a4=.int .i64 (c:Int)/\vQ idx per a=some c/\wr=w1.drewN q)
 case atStart=>exact⟨0,1,0,rfl,rfl,rfl,rfl,rfl⟩
 obtain⟨a,c,q,H5,rfl,rfl,hc,rfl⟩:=hrel;have H3:=Kh H5;have HC:=Kh hc;have H6:=pZ hc;clear H5 hc;by_cases ha:a<n
 ·have H7:(a:Int)<n:=by omega
  obtain⟨i,p,ci,cp,ei,ep⟩:=a6.out a ha;have h8:=Kh (gK HC.out ei ep);clear ei ep;by_cases h1:2000<(i:Int)
  ·have HF:=Kh (H2.out (a+1) (by omega) (by rw[h8.out,if_pos (by omega)]))
   go_wp2;refine bodyPost_ret (v:=.tuple #[.int .i64 0,.bool false]) (by simp[results,Try.results35,go_sem]) rfl ?_;exact⟨by rw[HF.out.1,HF.out.2],zC h9.out (zT w1 _ none)⟩
  by_cases h2:2000<(p:Int)
  ·have HF:=Kh (H2.out (a+1) (by omega) (by rw[h8.out,if_pos (by omega)]))
   go_wp2;refine bodyPost_ret (v:=.tuple #[.int .i64 0,.bool false]) (by simp[results,Try.results35,go_sem]) rfl ?_;exact⟨by rw[HF.out.1,HF.out.2],zC h9.out (zT w1 _ none)⟩
  obtain⟨r,hr⟩:=Nm (i+p);have e0:(i:Int)+(p:Int)=(r:Int):=by omega
  have H4:r<=4000:=by omega
  obtain⟨m,hm⟩:=Nm (c*r);have b0:m<=8000000:=by rw[hm];exact(fU H6 H4).2.2
  have h0:Hid (vQ idx per (a+1)=if 2000<m then none else some m):=Kh (by
   rw[h8.out,<-hr,<-hm];by_cases h:2000<m
   ·rw[if_pos h,if_pos (.inr (.inr h))]
   rw[if_neg h,if_neg (by omega)])
  have H1:=Kh (H2.out (a+1) (by omega));have e1:IntKind.i64.wrap ((i:Int)+(p:Int))=(r:Int):=by rw[e0];exact wG (by omega)
  have e34:=fU H6 H4;rw[<-hm]at e34;have e3:=e34.1;clear e34 hm hr h8 e0;by_cases h3:2000<m
  ·have HF:=Kh (H1.out (by rw[h0.out,if_pos h3]))
   have H8:2000<(m:Int):=(by clear e1 e3;omega);go_wp2
   go_quiet (fail)
   go_wp2;refine bodyPost_ret (v:=.tuple #[.int .i64 0,.bool false]) (by simp[results,Try.results35,go_sem]) rfl ?_;exact⟨by rw[HF.out.1,HF.out.2],zC h9.out (by first|exact zT w1 _ none|exact zC (zT w1 _ none) (zT _ _ none))⟩
  have a0:Hid (vQ idx per (a+1)=some m):=Kh (by rw[h0.out,if_neg h3]);have H8:¬2000<(m:Int):=(by clear e1 e3;omega);clear h0;go_wp2
  go_quiet (fail)
  clear e1 e3;go_wp2;go_roundg (n-(a+1))
  case measure=>have:=H3.out;omega
  exact⟨a+1,m,_,by have:=H3.out;omega,by go_num,rfl,a0.out,by first|rfl|exact World.drewN_drewN _ _ _⟩
 have H7:¬(a:Int)<n:=by omega
 have HE:Hid (rn=c/\rb=true):=Kh (by
  have:=HC.out;rw[show a=idx.length by have:=H3.out;have:=HN.out;omega]at this;obtain⟨h1,h2⟩:=dA this
  exact⟨by rw[a1.out,h1],by rw[a2.out,h2]⟩)
 go_wp2;refine bodyPost_ret (v:=.tuple #[.int .i64 (c:Int),.bool true]) (by simp[results,Try.results35,go_sem]) rfl ?_;exact⟨by rw[HE.out.1,HE.out.2],zC h9.out (zT w1 _ none)⟩
open Go.Maps
def valC (t:List (List Int))(im Ls:List Nat):Nat->Nat->Nat->Nat
 | 0,_,v=>v
 | a+1,r,v=>valC t im Ls a (r / Ls.getD a 0) (entN t v (powN t (im.getD a 0) (r % Ls.getD a 0)))
def imI (I:SynI):List Nat:=I.images.map Int.toNat
structure PowsR (I:SynI)(Ls js:List Nat)(a:Nat):Prop where
 l1:Ls.length=a
 l2:js.length=a
 pow:∀b,b<a->PowR I.tab ((imI I).getD b 0) (Ls.getD b 0) (js.getD b 0)
def perL (Ls js:List Nat):List Nat:=(List.range Ls.length).map fun b=>Ls.getD b 0-js.getD b 0
def qFH (I:SynI)(c:CntV):Prop:=∃Ls js,PowsR I Ls js I.images.length/\c.idx=vO js/\c.per=vO (perL Ls js)/\vQ c.idx c.per I.images.length=some c.acc.length/\c.acc=(List.range c.acc.length).map fun i=>I.accept.getD (valC I.tab (imI I) Ls I.images.length i 0) false
def qMJ (I:SynI):Prop:=∃Ls js,PowsR I Ls js I.images.length/\vQ (vO js) (vO (perL Ls js)) I.images.length=none
def qQG (I:SynI)(w:World)(e:Ending)(w':World):Prop :=
 ((∃z:Int,e=.returned (.tuple #[.agg #[.slice none 0 0,.slice none 0 0,.slice none 0 0],.int .i64 z])/\((z=8/\¬qQ I)\/(z=20/\qQ I/\kP I.tab=false)\/(z=3/\qQ I/\kP I.tab=true/\qMJ I))) \/
 ∃c v,e=.returned (.tuple #[v,.int .i64 0])/\qQ I/\kP I.tab=true/\qFH I c/\iQ w'.heap.size w' v c)/\w.grownBy w' none
theorem uT (Ls js:List Nat):(perL Ls js).length=Ls.length:=by simp[perL]
theorem uS (l:List Nat):(vO l).length=l.length:=by simp[vO]
theorem kG (l:List Nat):ints (vO l)=nats l:=by simp[ints,vO,nats]
theorem oZ {l:List Nat}{i:Nat}(h:i<l.length):(vO l).getD i 0=((l.getD i 0:Nat):Int):=by
 rw[vO,xR (x:=0) h]
theorem qAE {Ls js:List Nat}{b:Nat}(h:b<Ls.length):(perL Ls js).getD b 0=Ls.getD b 0-js.getD b 0:=by
 rw[zK (by rw[uT];exact h)];simp[perL]
theorem qJW {Ls js:List Nat}(L j:Nat)(h:js.length=Ls.length):perL (Ls++[L]) (js++[j])=perL Ls js++[L-j]:=by
 refine List.ext_getElem (by simp[perL]) fun i h1 h2=>?_;rw[uT,List.length_append,List.length_singleton]at h1;rcases Nat.lt_or_ge i Ls.length with h3|h3
 ·rw[List.getElem_append_left (by rw[uT];exact h3)]
  simp only[perL,List.getElem_map,List.getElem_range];rw[List.getD_eq_getElem?_getD,List.getD_eq_getElem?_getD,List.getElem?_append_left h3,List.getElem?_append_left (by omega),<-List.getD_eq_getElem?_getD,<-List.getD_eq_getElem?_getD]
 have e:i=Ls.length:=by omega
 subst e;rw[List.getElem_append_right (by rw[uT];exact Nat.le_refl _)];simp[perL,List.getD_eq_getElem?_getD,<-h]
theorem PowsR.add {I:SynI}{Ls js:List Nat}{a L j:Nat}(h:PowsR I Ls js a)(hp:PowR I.tab ((imI I).getD a 0) L j):PowsR I (Ls++[L]) (js++[j]) (a+1) where
 l1:=by simp[h.l1]
 l2:=by simp[h.l2]
 pow:=fun b hb=>by
  rcases Nat.lt_or_ge b a with h1|h1
  ·rw[List.getD_eq_getElem?_getD (l:=Ls++[L]),List.getD_eq_getElem?_getD (l:=js++[j]),List.getElem?_append_left (by rw[h.l1];exact h1),List.getElem?_append_left (by rw[h.l2];exact h1),<-List.getD_eq_getElem?_getD,<-List.getD_eq_getElem?_getD]
   exact h.pow b h1
  ·have e:b=a:=by omega
   subst e
   rw[List.getD_eq_getElem?_getD (l:=Ls++[L]),List.getD_eq_getElem?_getD (l:=js++[j]),List.getElem?_append_right (by rw[h.l1];exact Nat.le_refl _),List.getElem?_append_right (by rw[h.l2];exact Nat.le_refl _),h.l1,h.l2,Nat.sub_self]
   exact hp
theorem PowsR.posC {I:SynI}{Ls js:List Nat}{a:Nat}(h:PowsR I Ls js a):PosC (vO js) (vO (perL Ls js)):=fun b hb=>by
 rw[uS,h.l2]at hb
 have h1:=(h.pow b hb).2.1
 rw[oZ (by rw[h.l2];exact hb),oZ (by rw[uT,h.l1];exact hb),qAE (by rw[h.l1];exact hb)]
 omega
def iE (I:SynI)(Ls:List Nat)(k c i:Nat):List Bool:=((List.range i).map fun j=>I.accept.getD (valC I.tab (imI I) Ls k j 0) false)++List.replicate (c-i) false
theorem qHQ (I:SynI)(Ls:List Nat)(k c:Nat):iE I Ls k c 0=List.replicate c false:=by simp[iE]
theorem qKX {I:SynI}{Ls:List Nat}{k c i:Nat}(h:i<c):(iE I Ls k c i).set i (I.accept.getD (valC I.tab (imI I) Ls k i 0) false)=iE I Ls k c (i+1):=by
 unfold iE;rw[List.set_append_right _ _ (by simp),List.range_succ,List.map_append];simp only[List.length_map,List.length_range,Nat.sub_self];rw[show c-i=(c-(i+1))+1 by omega,List.replicate_succ];simp
theorem qKY (I:SynI)(Ls:List Nat)(k c:Nat):iE I Ls k c c=(List.range c).map fun j=>I.accept.getD (valC I.tab (imI I) Ls k j 0) false:=by simp[iE]
def eO (I:SynI)(Ls:List Nat):List (List Nat):=(List.range Ls.length).map fun b=>uG I.tab ((imI I).getD b 0) (Ls.getD b 0)
theorem tL (I:SynI)(Ls:List Nat):(eO I Ls).length=Ls.length:=by simp[eO]
theorem qHG (I:SynI)(Ls:List Nat)(L:Nat):eO I (Ls++[L])=eO I Ls++[uG I.tab ((imI I).getD Ls.length 0) L]:=by
 refine List.ext_getElem (by simp[eO]) fun i h1 h2=>?_;rw[tL,List.length_append,List.length_singleton]at h1;rcases Nat.lt_or_ge i Ls.length with h3|h3
 ·rw[List.getElem_append_left (by rw[tL];exact h3)]
  simp only[eO,List.getElem_map,List.getElem_range];rw[List.getD_eq_getElem?_getD (l:=Ls++[L]),List.getElem?_append_left h3,<-List.getD_eq_getElem?_getD]
 have e:i=Ls.length:=by omega
 subst e;rw[List.getElem_append_right (by rw[tL];exact Nat.le_refl _)];simp[eO,List.getD_eq_getElem?_getD]
theorem qJU {I:SynI}{Ls:List Nat}{b:Nat}(h:b<Ls.length):(eO I Ls).getD b []=uG I.tab ((imI I).getD b 0) (Ls.getD b 0):=by
 rw[zK (by rw[tL];exact h)];simp[eO]
inductive CoS (I:SynI)(w6:World)(o k pg:Nat)(hsP:List Value)(Ls js:List Nat)(sI:Option Addr)(cI:Nat)(sP:Option Addr)(cP:Nat)(va:Value)(tl:List RowS)(w:World):Prop
 | mk (X:Nat->Prop) (hB:BoxS w6.heap.size X o 28 w6 w (⟨w6.heap.size,22,.slice (some ⟨pg,0,none⟩) k k,k,hsP,1⟩::⟨w6.heap.size,3,.slice sI Ls.length cI,Ls.length,nats js,1⟩::⟨w6.heap.size,3,.slice sP Ls.length cP,Ls.length,nats (perL Ls js),1⟩::tl) #[.slice sI Ls.length cI,.slice sP Ls.length cP,va] w)
  (hT:xW X 3 nats w (hsP.take Ls.length) (eO I Ls))
section
variable {I:SynI} {w6 w w':World} {o k pg:Nat} {hsP:List Value} {Ls js:List Nat} {sI:Option Addr} {cI:Nat} {sP:Option Addr} {cP:Nat} {va:Value} {tl:List RowS}
theorem CoS.grow (h:CoS I w6 o k pg hsP Ls js sI cI sP cP va tl w)(hg:w.grownBy w' none):CoS I w6 o k pg hsP Ls js sI cI sP cP va tl w':=by
 obtain⟨X,hB,hT⟩:=h;exact⟨X,(hB.grow hg).rebase,hT.kept (hB.mem.keep hg) hg.size⟩
theorem CoS.g (h:CoS I w6 o k pg hsP Ls js sI cI sP cP va tl w):w6.grownBy w none:=by
 obtain⟨X,hB,hT⟩:=h;exact hB.grown
theorem CoS.cells (h:CoS I w6 o k pg hsP Ls js sI cI sP cP va tl w):w.heap[o]?=some (.cells #[.slice sI Ls.length cI,.slice sP Ls.length cP,va] 28 (0,0))/\Arr w pg 22 hsP/\hsP.length=k/\w.ownsRow w6.heap.size 3 1 (.slice sI Ls.length cI) Ls.length (nats js)/\w.ownsRow w6.heap.size 3 1 (.slice sP Ls.length cP) Ls.length (nats (perL Ls js)):=by
 obtain⟨X,hB,hT⟩:=h;have h1:=hB.own (r:=⟨w6.heap.size,22,.slice (some ⟨pg,0,none⟩) k k,k,hsP,1⟩) (by simp);exact⟨hB.box,Arr.of_owns h1,by have:=h1.1;simpa using this,hB.own (r:=⟨w6.heap.size,3,.slice sI Ls.length cI,Ls.length,nats js,1⟩) (by simp),hB.own (r:=⟨w6.heap.size,3,.slice sP Ls.length cP,Ls.length,nats (perL Ls js),1⟩) (by simp)⟩
theorem CoS.row (h:CoS I w6 o k pg hsP Ls js sI cI sP cP va tl w){b:Nat}(hb:b<Ls.length)(h0:0<Ls.getD b 0)(hk:Ls.length<=k):∃rb ro rc,w.cell? ⟨pg,b,none⟩=some (.slice (some ⟨rb,ro,none⟩) (Ls.getD b 0) rc)/\Ls.getD b 0<=rc/\rc<=maxLen/\∀i,i<Ls.getD b 0->w.cell? ⟨rb,ro+i,none⟩=some (.int .i64 ((powN I.tab ((imI I).getD b 0) i:Nat):Int)):=by
 obtain⟨_,hA,hl,_,_⟩:=h.cells;obtain⟨X,hB,hT⟩:=h;have h1:=hT.1;have h2:b<(hsP.take Ls.length).length:=by rw[List.length_take];omega
 have h3:=(hT.2 b h2 (by rw[tL];exact hb)).1.row;have e:(eO I Ls)[b]'(by rw[tL];exact hb)=uG I.tab ((imI I).getD b 0) (Ls.getD b 0):=by rw[<-zK (d:=[]) (by rw[tL];exact hb),qJU hb]
 rw[e]at h3;have hc:=hA.cell b (by omega);rw[show hsP[b]'(by omega)=(hsP.take Ls.length)[b]'h2 by simp]at hc;obtain⟨rb,ro,rc,ev,_,r1,r2,r3⟩:=h3.some_ (by rw[zR,wR];exact h0);rw[zR,wR]at ev r1;rw[ev]at hc;exact⟨rb,ro,rc,hc,r1,r2,fun i hi=>by rw[<-jX hi];exact r3.nat i (by rw[wR];exact hi)⟩
end
end Go.Proofs.Ytobakifdllameaa
namespace Go.Proofs.Ytobakifdllameaa
open Go.RowKit
def qTN (idx per:List Int)(a:Nat):Prop:=∀x,x<a->0<=idx.getD x 0/\1<=per.getD x 0
theorem qSY {c:CntV}(h:c.idx.length<1\/6<c.idx.length):cntE c=1:=by rw[cntE,if_pos h]
theorem qSX {c:CntV}(h:¬(c.idx.length<1\/6<c.idx.length))(h2:c.per.length≠c.idx.length):cntE c=22:=by rw[cntE,if_neg h,if_pos h2]
theorem qSW {c:CntV}(h:¬(c.idx.length<1\/6<c.idx.length))(h2:c.per.length=c.idx.length)(h3:¬PosC c.idx c.per):cntE c=22:=by
 rw[cntE,if_neg h,if_neg (by omega),if_pos];rw[<-Bool.not_eq_true,fR];exact h3
theorem qSV {c:CntV}(h:¬(c.idx.length<1\/6<c.idx.length))(h2:c.per.length=c.idx.length)(h3:PosC c.idx c.per):cntE c=if dB c.idx c.per=false then 3 else if (c.acc.length:Int)≠fG c.idx c.per then 22 else 0:=by
 rw[cntE,if_neg h,if_neg (by omega),if_neg (by rw[fR.2 h3];simp)]
theorem bU (B:Nat)(w:World)(v:Value)(c:CntV)(h:iQ B w v c):Calls Try.prog 18 #[v] w fun e w'=>e=.returned (.int .i64 (cntE c))/\w.grownBy w' none:=by
 obtain⟨vi,vp,va,rfl,hi,hp,ha⟩:=h;obtain⟨iA,iC,rfl⟩:=hi.shape;obtain⟨pA,pC,rfl⟩:=hp.shape;obtain⟨aA,aC,rfl⟩:=ha.shape;obtain⟨n,hn⟩:=Nm ((ints c.idx).length);obtain⟨pn,h0⟩:=Nm ((ints c.per).length);obtain⟨an,H0⟩:=Nm ((bls c.acc).length);rw[<-hn]at hi;rw[<-h0]at hp;rw[<-hn,<-h0,<-H0];rw[zN]at hn h0;rw[yB]at H0;obtain⟨w1,h7⟩:=Nm (w.alloc (.cells #[.slice iA n iC,.slice pA pn pC,.slice aA an aC] 28));have h8:w.grownBy w1 none:=by rw[h7];exact Ga w _ none
 have h9:=heap_alloc_new w (.cells #[.slice iA n iC,.slice pA pn pC,.slice aA an aC] 28);obtain⟨P,hP⟩:=Nm w.heap.size;rw[<-h7,<-hP]at h9;obtain⟨q0,q1,q2⟩:=vS h9;obtain⟨E,hE⟩:=Nm (cntE c);rw[<-hE];have H7:Hid (n<1\/6<n->E=1):=Kh (fun h=>by rw[hE];exact qSY (by rw[<-hn];exact h));have a9:Hid (¬(n<1\/6<n)->pn≠n->E=22):=Kh (fun h h2=>by rw[hE];exact qSX (by rw[<-hn];exact h) (by rw[<-hn,<-h0];exact h2));have a8:Hid (¬(n<1\/6<n)->pn=n->¬PosC c.idx c.per->E=22):=Kh (fun h h2 h3=>by rw[hE];exact qSW (by rw[<-hn];exact h) (by rw[<-hn,<-h0];exact h2) h3);have a7:Hid (¬(n<1\/6<n)->pn=n->PosC c.idx c.per->E=if dB c.idx c.per=false then 3 else if (an:Int)≠fG c.idx c.per then 22 else 0):=Kh (fun h h2 h3=>by rw[hE,H0];exact qSV (by rw[<-hn];exact h) (by rw[<-hn,<-h0];exact h2) h3);have HI:=Kh (hi.kept h8 (by simp));have HP:=Kh (hp.kept h8 (by simp));obtain⟨h4,b6,b4,b5,HN,H1⟩:=K6 h8 h9 h7 hP hn h0;clear hi hp ha hn h0 H0 h8 h9 h7 hP hE;go_enter Try.func18,Try.ntmps18;go_upto_region 1 with fail;rw[<-b4.out,<-b5.out];by_cases h1:(n:Int)<1
 ·go_wp2
  go_ret;exact⟨xH (H7.out (by omega)).symm,h4.out⟩
 by_cases h2:6<(n:Int)
 ·go_wp2
  go_ret;exact⟨xH (H7.out (by omega)).symm,h4.out⟩
 by_cases h3:pn=n
 case neg =>
  have e3:((pn:Int) != (n:Int))=true:=by rw[bne_iff_ne];omega
  go_wp2;go_ret;exact⟨xH (a9.out (by omega) h3).symm,h4.out⟩
 have e3:((pn:Int) != (n:Int))=false:=by rw[bne_eq_false_iff_eq];omega
 have h6:=Kh (a8.out (by omega) h3);have H6:=Kh (a7.out (by omega) h3);clear H7 a9 a8 a7;subst h3;obtain⟨ib,io,ic,ei,_,i1,i2,ir⟩:=HI.out.some_ (by rw[zN];have:=HN.out;omega);obtain⟨pb,po,pc,ep,_,p1,p2,pr⟩:=HP.out.some_ (by rw[zN];have:=H1.out;omega);simp only[Value.slice.injEq]at ei ep;obtain⟨rfl,b1,rfl⟩:=ei;obtain⟨rfl,b0,rfl⟩:=ep;rw[zN,<-HN.out]at i1;rw[zN,<-H1.out]at p1;unfold maxLen at i2 p2;have IR:=Kh ir;have PR:=Kh pr;clear ir pr b1 b0;go_wp2
 go_loopg [3,26] pn (fun gh a3 a26 wr=>∃a:Nat,gh+a=pn/\a26=.int .i64 a/\qTN c.idx c.per a/\wr=w1)
 case atStart=>exact⟨0,rfl,rfl,fun x hx=>by omega,rfl⟩
 obtain⟨a,a2,rfl,a1,rfl⟩:=hrel;have H4:=Kh a2;have a4:=Kh a1;clear a2 a1;by_cases ha:a<pn
 ·have b2:(a:Int)<pn:=by omega
  have c1:=IR.out.int a (by rw[<-HN.out];exact ha);have c2:=PR.out.int a (by rw[<-H1.out];exact ha);obtain⟨x,hx⟩:=Nm (c.idx.getD a 0);obtain⟨y,hy⟩:=Nm (c.per.getD a 0);rw[<-hx]at c1;rw[<-hy]at c2;have a6:Hid (x<0\/y<1->¬PosC c.idx c.per):=Kh (fun h hp=>by have:=hp a (by rw[<-HN.out];exact ha);omega)
  have b3:Hid (0<=x->1<=y->qTN c.idx c.per (a+1)):=Kh (fun h1 h2 z hz=>by
   rcases Nat.lt_or_ge z a with h|h
   ·exact a4.out z h
   have:z=a:=by omega
   subst this;rw[<-hx,<-hy];exact⟨h1,h2⟩)
  clear hx hy;by_cases hx0:x<0
  ·go_wp2
   go_ret;exact⟨xH (h6.out (a6.out (.inl hx0))).symm,h4.out⟩
  by_cases hy1:y<1
  ·go_wp2
   go_ret;exact⟨xH (h6.out (a6.out (.inr hy1))).symm,h4.out⟩
  go_wp2;go_roundg (pn-(a+1))
  case measure=>have:=H4.out;omega
  exact⟨a+1,by have:=H4.out;omega,by go_num,b3.out (by omega) (by omega),rfl⟩
 have b2:¬(a:Int)<pn:=by omega
 have a5:Hid (PosC c.idx c.per):=Kh (fun z hz=>a4.out z (by have:=H4.out;have:=HN.out;omega));have H8:=Kh (qGF B wr _ _ (.slice aA an aC) c.idx c.per HI.out HP.out (by rw[<-HN.out,<-H1.out]) a5.out (by have:=HN.out;omega));have H2:=Kh (H6.out a5.out);obtain⟨rn,H9⟩:=Nm (fG c.idx c.per);obtain⟨rb,a0⟩:=Nm (dB c.idx c.per);rw[<-H9,<-a0]at H8 H2;clear H9 a0;go_wp2_with fail;refine H8.out.mono ?_;rintro e w2 ⟨rfl,H3⟩;obtain⟨q0,q1,q2⟩:=vS (zB b6.out H3);have H5:=Kh (zC h4.out H3);clear H3 H8;cases rb with
 | false =>
  go_wp2;go_ret;exact⟨xH (by rw[H2.out];simp),H5.out⟩
 | true =>
  by_cases h5:(an:Int)=rn
  ·have e5:((an:Int) != rn)=false:=by rw[bne_eq_false_iff_eq];exact h5
   have HZ:Hid (E=0):=Kh (by rw[H2.out,if_neg (by simp),if_neg (by simpa using h5)]);clear h5;go_wp2;go_ret;exact⟨xH HZ.out.symm,H5.out⟩
  have e5:((an:Int) != rn)=true:=by rw[bne_iff_ne];exact h5
  have HZ:Hid (E=22):=Kh (by rw[H2.out,if_neg (by simp),if_pos h5]);clear h5;go_wp2;go_ret;exact⟨xH HZ.out.symm,H5.out⟩
def mU (letters:Int)(c:UInt8):Bool:=decide (97<=(c.toNat:Int)/\(c.toNat:Int)-97<letters)
def xN (s:ByteArray)(letters:Int):Bool:=decide (1<=letters/\letters<=6/\s.size<=2048) && s.data.toList.all (mU letters)
theorem gO (s:ByteArray)(a9:Int)(k:Nat)(hk:k<s.size)(h:(s[k].toNat:Int)<97\/a9<=((s[k].toNat:Int)-97) % 256):xN s a9=false:=by
 have hm:s[k]∈s.data.toList:=by
  have:s[k]=s.data[k]'(by simpa using hk):=rfl;rw[this];simp
 have h2:mU a9 s[k]=false:=by
  have:=UInt8.toNat_lt s[k];simp[mU];omega
 unfold xN;rw[Bool.and_eq_false_iff];right;rw[List.all_eq_false];exact⟨_,hm,by simp[h2]⟩
theorem qPK (s:ByteArray)(a9:Int)(k:Nat)(hk:k<s.size)(h:(s.data.toList.take k).all (mU a9)=true)(h1:97<=(s[k].toNat:Int)/\((s[k].toNat:Int)-97) % 256<a9):(s.data.toList.take (k+1)).all (mU a9)=true:=by
 rw[List.take_succ_eq_append_getElem (by simpa using hk),List.all_append,h];have:s.data.toList[k]'(by simpa using hk)=s[k]:=rfl;have h3:=UInt8.toNat_lt s[k];simp[this,mU];omega
theorem bZ (s:ByteArray)(a9:Int)(k:Nat)(hk:s.size<=k)(h:1<=a9/\a9<=6/\s.size<=2048)(ha:(s.data.toList.take k).all (mU a9)=true):xN s a9=true:=by
 rw[List.take_of_length_le (by simpa using hk)]at ha;simp[xN,ha,h]
theorem jQ (s:ByteArray)(a9:Int)(w:World)(hs:s.size<=maxLen):Calls Try.prog 19 #[.string s,.int .i64 a9] w fun e w'=>e=.returned (.bool (xN s a9))/\w=w':=by
 unfold maxLen at hs;by_cases h1:a9<1
 ·go_enter Try.func19,Try.ntmps19
  go_wp2;go_ret;exact⟨yY (by simp[xN];omega),rfl⟩
 by_cases h2:6<a9
 ·go_enter Try.func19,Try.ntmps19
  go_wp2;go_ret;exact⟨yY (by simp[xN];omega),rfl⟩
 by_cases h3:2048<s.size
 ·go_enter Try.func19,Try.ntmps19
  go_wp2;go_ret;exact⟨yY (by simp[xN];omega),rfl⟩
 go_enter Try.func19,Try.ntmps19;go_wp2
 go_loop [19] (fun i=>∃k:Nat,k<=s.size/\i=.int .i64 k/\(s.data.toList.take k).all (mU a9)=true) (fun i=>s.size-(intOf i).toNat)
 case atStart=>exact⟨0,Nat.zero_le _,rfl,rfl⟩
 obtain⟨k,hk,rfl,h0⟩:=hrel;have HA:=Kh h0;clear h0;by_cases hlt:k<s.size
 ·go_wp2
  ·go_ret
   exact⟨yY (by rw[eq_comm];exact gO s a9 k hlt (by omega)),rfl⟩
  ·go_round
   case rel=>exact⟨k+1,by omega,by go_num,qPK s a9 k hlt HA.out (by omega)⟩
   simp[intOf];omega
  go_ret;exact⟨yY (by rw[eq_comm];exact gO s a9 k hlt (by omega)),rfl⟩
 go_wp2;go_ret;exact⟨yY (by rw[eq_comm];exact bZ s a9 k (by omega) (by omega) HA.out),rfl⟩
def yT (s:ByteArray):List Nat:=s.data.toList.map fun c=>c.toNat-97
theorem vY (s:ByteArray):(yT s).length=s.size:=by simp[yT]
theorem qAL {s:ByteArray}{i:Nat}(h:i<s.size):(yT s).getD i 0=s[i].toNat-97:=by
 rw[zK (by rw[vY];exact h)];simp[yT];rfl
theorem bH {k:Nat}{c:UInt8}:mU (k:Int) c=true↔97<=c.toNat/\c.toNat-97<k:=by
 unfold mU;rw[decide_eq_true_eq];omega
theorem qI {s:ByteArray}{k:Nat}(h:xN s (k:Int)=true):xM k (yT s)/\(∀i (hi:i<s.size),97<=s[i].toNat/\s[i].toNat-97<k)/\s.size<=2048:=by
 simp only[xN,Bool.and_eq_true,decide_eq_true_eq,List.all_eq_true]at h;refine⟨fun a ha=>?_,fun i hi=>?_,h.1.2.2⟩
 ·obtain⟨c,hc,rfl⟩:=List.mem_map.1 ha
  exact(bH.1 (h.2 c hc)).2
 have hm:s[i]∈s.data.toList:=by
  have:s[i]=s.data.toList[i]'(by simpa using hi):=by simp;rfl
  rw[this];exact List.getElem_mem _
 exact bH.1 (h.2 _ hm)
theorem qSE {c:Nat}(h:97<=c)(h2:c<256):IntKind.u8.wrap ((c:Int)-97)=((c-97:Nat):Int):=by
 unfold IntKind.wrap;simp[IntKind.bits,IntKind.signed];omega
theorem dE {u:ByteArray}{k i:Nat}(h:∀i (hi:i<u.size),97<=u[i].toNat/\u[i].toNat-97<k)(hi:i<u.size):∃b a:Nat,(u[i].toNat:Int)=(b:Int)/\IntKind.u8.wrap ((b:Int)-97)=(a:Int)/\((b:Int)-97) % 256=(a:Int)/\a<k/\(yT u).getD i 0=a:=by
 have hb:=h i hi;have h0:u[i].toNat<256:=u[i].toNat_lt;exact⟨u[i].toNat,u[i].toNat-97,rfl,qSE hb.1 h0,by omega,hb.2,qAL hi⟩
end Go.Proofs.Ytobakifdllameaa
namespace Go.Proofs.Ytobakifdllameaa
def asN (n i p:Nat):Nat:=if n<i then n else i+(n-i) % p
def iN (c:CntV)(a:Nat):Nat:=(c.idx.getD a 0).toNat
def pN (c:CntV)(a:Nat):Nat:=(c.per.getD a 0).toNat
def atTo (c:CntV)(ns:List Nat):Nat->Nat
 | 0=>0
 | a+1=>atTo c ns a*(iN c a+pN c a)+asN (ns.getD a 0) (iN c a) (pN c a)
def xU (k:Nat)(u:List Nat):List Nat:=(List.range k).map fun a=>u.count a
theorem uX (k:Nat)(u:List Nat):(xU k u).length=k:=by simp[xU]
theorem rZ {k a:Nat}{u:List Nat}(h:a<k):(xU k u).getD a 0=u.count a:=by
 rw[zK (by rw[uX];exact h)];simp[xU]
theorem bV (k:Nat):xU k []=List.replicate k 0:=by
 refine List.ext_getElem (by simp[xU]) fun i h1 h2=>?_;simp[xU]
theorem qET {k a:Nat}{u:List Nat}:(xU k u).set a (u.count a+1)=xU k (u++[a]):=by
 refine List.ext_getElem (by simp[xU]) fun i h1 h2=>?_;rw[List.getElem_set];simp only[xU,List.getElem_map,List.getElem_range,List.count_append,List.count_singleton]
 split
 ·rename_i e;subst e;simp
 rename_i e;simp[e]
theorem qGM {n i p:Nat}(hp:1<=p):asN n i p<i+p:=by
 unfold asN
 split
 ·omega
 have:=Nat.mod_lt (n-i) (show p > 0 by omega);omega
theorem qFB {c:CntV}(a9:PosC c.idx c.per)(ns:List Nat):∀(a m:Nat),a<=c.idx.length->vQ c.idx c.per a=some m->atTo c ns a<m
 | 0,m,_,h=>by rw[vQ]at h;have:=Oj h;subst this;simp[atTo]
 | a+1,m,ha,h=>by
  rw[vQ]at h
  rcases hc:vQ c.idx c.per a with _|x
  ·rw[hc]at h;cases h
  ·rw[hc]at h
   simp only at h
   have hp:=a9 a (by omega)
   have ih:=qFB a9 ns a x (by omega) hc
   split at h
   ·cases h
   ·have e:=Oj h
    have e2:(c.idx.getD a 0+c.per.getD a 0).toNat=iN c a+pN c a:=by unfold iN pN;omega
    rw[<-e,e2,atTo]
    have h1:=qGM (n:=ns.getD a 0) (i:=iN c a) (p:=pN c a) (by unfold pN;omega)
    calc atTo c ns a*(iN c a+pN c a)+asN (ns.getD a 0) (iN c a) (pN c a)<atTo c ns a*(iN c a+pN c a)+(iN c a+pN c a):=by omega
     _=(atTo c ns a+1)*(iN c a+pN c a):=by rw[Nat.add_mul,Nat.one_mul]
     _<=x*(iN c a+pN c a):=Nat.mul_le_mul_right _ ih
theorem bT {idx per:List Int}{n m:Nat}(h:vQ idx per n=some m):∀a,a<=n->∃x,vQ idx per a=some x:=by
 intro a ha;rcases hc:vQ idx per a with _|x
 ·have:=gL hc (n-a)
  rw[show a+(n-a)=n by omega,h]at this;cases this
 exact⟨x,rfl⟩
noncomputable def pK (c:CntV)(s:ByteArray):Bool:=decide (cntE c=0) && xN s c.idx.length && c.acc.getD (atTo c (xU c.idx.length (yT s)) c.idx.length) false
theorem qKW {c:CntV}{s:ByteArray}(h:cntE c≠0):pK c s=false:=by rw[pK,decide_eq_false h];rfl
theorem iZ {c:CntV}{s:ByteArray}(h:xN s c.idx.length=false):pK c s=false:=by rw[pK,h];simp
theorem iD {c:CntV}{s:ByteArray}(h:cntE c=0)(h2:xN s c.idx.length=true):pK c s=c.acc.getD (atTo c (xU c.idx.length (yT s)) c.idx.length) false:=by rw[pK,h2,decide_eq_true h];rfl
theorem qRS {c:CntV}{ns:List Nat}{a i p:Nat}(hi:c.idx.getD a 0=(i:Int))(hp:c.per.getD a 0=(p:Int)):atTo c ns (a+1)=atTo c ns a*(i+p)+asN (ns.getD a 0) i p:=by
 rw[atTo,show iN c a=i by unfold iN;omega,show pN c a=p by unfold pN;omega]
theorem qSK {c:CntV}(h:CntOk c){a:Nat}(ha:a<c.idx.length):∃i p:Nat,c.idx.getD a 0=(i:Int)/\c.per.getD a 0=(p:Int)/\i<=2000/\1<=p/\p<=2000:=by
 have hp:=h.pos a ha;obtain⟨x,hx⟩:=bT h.size (a+1) (by omega);rw[vQ]at hx
 split at hx
 ·cases hx
 split at hx
 ·cases hx
 exact⟨(c.idx.getD a 0).toNat,(c.per.getD a 0).toNat,by omega,by omega,by omega,by omega,by omega⟩
theorem qUM {c:CntV}(h:CntOk c)(ns:List Nat){a:Nat}(ha:a<=c.idx.length):atTo c ns a<=2000:=by
 obtain⟨x,hx⟩:=bT h.size a ha;have h1:=qFB h.pos ns a x ha hx;have h2:=pZ hx;omega
def radN (c:CntV)(a:Nat):Nat:=iN c a+pN c a
def tO (r:Nat->Nat)(a:Nat):Nat->Nat
 | 0=>1
 | b+1=>if a<=b then tO r a b*r b else 1
theorem nS {r:Nat->Nat}{a:Nat}:∀ {b:Nat},b<=a->tO r a b=1
 | 0,_=>rfl
 | b+1,h=>by rw[tO,if_neg (by omega)]
theorem sO {r:Nat->Nat}{a b:Nat}(h:a<=b):tO r a (b+1)=tO r a b*r b:=by rw[tO,if_pos h]
theorem rW {r:Nat->Nat}{a:Nat}:∀ {b:Nat},a<b->tO r a b=r a*tO r (a+1) b
 | 0,h=>by omega
 | b+1,h=>by
  rcases Nat.lt_or_ge a b with h1|h1
  ·rw[sO (by omega),sO (by omega),rW h1,Nat.mul_assoc]
  ·have e:a=b:=by omega
   subst e
   rw[sO (Nat.le_refl _),nS (Nat.le_refl _),nS (Nat.le_refl _),Nat.one_mul,Nat.mul_one]
theorem jV {r:Nat->Nat}{a:Nat}:∀ {b:Nat},(∀x,x<b->0<r x)->0<tO r a b
 | 0,_=>Nat.one_pos
 | b+1,h=>by
  rw[tO];split
  ·exact Nat.mul_pos (jV (fun x hx=>h x (by omega))) (h b (by omega))
  ·exact Nat.one_pos
def stN (c:CntV)(a:Nat):Nat:=tO (radN c) (a+1) c.idx.length
def digN (c:CntV)(q a:Nat):Nat:=q / stN c a % radN c a
def nxtE (c:CntV)(d a:Nat):Nat:=if d+1=radN c a then iN c a else d+1
def kO (c:CntV)(q a:Nat):Nat:=q-digN c q a*stN c a+nxtE c (digN c q a) a*stN c a
section
variable {c:CntV}
theorem qD (h:PosC c.idx c.per){a:Nat}(ha:a<c.idx.length):0<radN c a/\1<=pN c a:=by
 have:=h a ha;unfold radN iN pN;omega
theorem qGK (h:PosC c.idx c.per){a:Nat}(ha:a<c.idx.length)(n:Nat):asN n (iN c a) (pN c a)<radN c a:=qGM (qD h ha).2
theorem qAV {n i p:Nat}(h:n<i+p):asN n i p=n:=by
 unfold asN
 split
 ·rfl
 rw[Nat.mod_eq_of_lt (by omega)];omega
theorem qGL {n i p:Nat}(hp:1<=p):asN (n+1) i p=if asN n i p+1=i+p then i else asN n i p+1:=by
 unfold asN;by_cases h1:n<i
 ·rw[if_pos h1]
  by_cases h2:n+1<i
  ·rw[if_pos h2,if_neg (by omega)]
  have e:n+1=i:=by omega
  rw[if_neg h2,e,Nat.sub_self,Nat.zero_mod]
  split
  ·rfl
  rfl
 rw[if_neg h1,if_neg (by omega)];obtain⟨m,hm⟩:=Nm (n-i);rw[show n+1-i=m+1 by omega,<-hm];have h2:=Nat.mod_lt m (show p > 0 by omega);have h3:=Nat.add_mod m 1 p;by_cases h4:m % p+1=p
 ·rw[if_pos (by omega)]
  have:(m+1) % p=0:=by
   rw[h3];rcases Nat.lt_or_ge 1 p with h5|h5
   ·rw[Nat.mod_eq_of_lt h5,h4,Nat.mod_self]
   have e:p=1:=by omega
   subst e;rw[Nat.mod_one]
  omega
 rw[if_neg (by omega)]
 have:(m+1) % p=m % p+1:=by
  rw[h3,Nat.mod_eq_of_lt (show 1<p by omega),Nat.mod_eq_of_lt (by omega)]
 omega
theorem qTF (h:PosC c.idx c.per)(ns:List Nat){b:Nat}(hb:b<=c.idx.length):atTo c ns c.idx.length / tO (radN c) b c.idx.length=atTo c ns b:=by
 obtain⟨m,hm⟩:=Nm (c.idx.length-b)
 induction m generalizing b with
 | zero =>
  have e:b=c.idx.length:=by omega
  rw[e,nS (Nat.le_refl _),Nat.div_one]
 | succ m ih =>
  have h0:b<c.idx.length:=by omega
  rw[rW h0,Nat.mul_comm,<-Nat.div_div_eq_div_mul,ih (b:=b+1) (by omega) (by omega),atTo];have h1:=qGK h h0 (ns.getD b 0);show (atTo c ns b*radN c b+_) / radN c b=_;rw[Nat.mul_comm,Nat.mul_add_div (qD h h0).1,Nat.div_eq_of_lt h1,Nat.add_zero]
theorem qTG (h:PosC c.idx c.per)(ns:List Nat){a:Nat}(ha:a<c.idx.length):digN c (atTo c ns c.idx.length) a=asN (ns.getD a 0) (iN c a) (pN c a):=by
 unfold digN stN;rw[qTF h ns (b:=a+1) ha,atTo];show (atTo c ns a*radN c a+_) % radN c a=_;rw[Nat.mul_comm,Nat.mul_add_mod,Nat.mod_eq_of_lt (qGK h ha _)]
theorem qMA (ns ms:List Nat){a:Nat}(he:∀b,b≠a->ns.getD b 0=ms.getD b 0):∀b,a<b->(atTo c ms b:Int)=atTo c ns b+((asN (ms.getD a 0) (iN c a) (pN c a):Int)-(asN (ns.getD a 0) (iN c a) (pN c a):Int))*tO (radN c) (a+1) b:=by
 have h0:∀b,b<=a->atTo c ms b=atTo c ns b:=by
  intro b
  induction b with
  | zero=>intro _;rfl
  | succ b ih=>intro hb;rw[atTo,atTo,ih (by omega),he b (by omega)]
 intro b
 induction b with
 | zero=>intro hb;omega
 | succ b ih =>
  intro hb;rcases Nat.lt_or_ge a b with h1|h1
  ·rw[atTo,atTo,he b (by omega),sO (by omega)]
   have:=ih h1;rw[show iN c b+pN c b=radN c b from rfl];simp only[Int.natCast_add,Int.natCast_mul];rw[this];rw[Int.add_mul,Int.mul_assoc];omega
  have e:b=a:=by omega
  subst e;rw[atTo,atTo,h0 b (Nat.le_refl _),nS (Nat.le_refl _)];simp only[Int.natCast_add,Int.natCast_mul];omega
theorem bR {u:List Nat}{a b k:Nat}(hb:b<k):(xU k (u++[a])).getD b 0=(xU k u).getD b 0+if b=a then 1 else 0:=by
 rw[rZ hb,rZ hb,List.count_append];by_cases h:b=a
 ·subst h;simp
 have:[a].count b=0:=List.count_eq_zero.2 (by simpa using h);rw[this,if_neg h]
theorem qLZ (h:PosC c.idx c.per){ns ms:List Nat}{a:Nat}(ha:a<c.idx.length)(he:∀b,b≠a->ns.getD b 0=ms.getD b 0)(h1:ms.getD a 0=ns.getD a 0+1):atTo c ms c.idx.length=kO c (atTo c ns c.idx.length) a:=by
 have e:=qMA (c:=c) ns ms he c.idx.length ha;have hd:=qTG h ns ha;have hp:=qD h ha;unfold kO;rw[hd];rw[h1,qGL hp.2]at e;have hx:nxtE c (asN (ns.getD a 0) (iN c a) (pN c a)) a=if asN (ns.getD a 0) (iN c a) (pN c a)+1=iN c a+pN c a then iN c a else asN (ns.getD a 0) (iN c a) (pN c a)+1:=rfl
 rw[<-hx]at e
 have h0:asN (ns.getD a 0) (iN c a) (pN c a)*stN c a<=atTo c ns c.idx.length:=by
  rw[<-hd];unfold digN;have:=Nat.mod_le (atTo c ns c.idx.length / stN c a) (radN c a)
  calc _<=atTo c ns c.idx.length / stN c a*stN c a:=Nat.mul_le_mul_right _ this
   _<=_:=Nat.div_mul_le_self _ _
 generalize nxtE c (asN (ns.getD a 0) (iN c a) (pN c a)) a=x at e⊢
 generalize asN (ns.getD a 0) (iN c a) (pN c a)=d at e h0⊢
 have e2:(atTo c ms c.idx.length:Int)=atTo c ns c.idx.length+((x*stN c a:Nat):Int)-((d*stN c a:Nat):Int):=by
  rw[e,Int.sub_mul];simp only[Int.natCast_mul];show _=_+(x:Int)*(tO (radN c) (a+1) c.idx.length:Int)-(d:Int)*(tO (radN c) (a+1) c.idx.length:Int);omega
 omega
def dfaC (c:CntV):DfaV:=⟨c.idx.length,0,c.acc,(List.range c.acc.length).map fun q=>(List.range c.idx.length).map fun a=>(kO c q a:Int)⟩
theorem qGD {q:Nat}(hq:q<c.acc.length):(dfaC c).next.getD q []=(List.range c.idx.length).map fun a=>(kO c q a:Int):=by
 rw[zK (by simpa [dfaC] using hq)];simp[dfaC]
theorem fW {q a:Nat}(hq:q<c.acc.length)(ha:a<c.idx.length):ent (dfaC c).next q a=(kO c q a:Int):=by
 unfold ent;rw[qGD hq,zK (by simpa using ha)];simp
theorem qBT {idx per:List Int}(hp:PosC idx per):∀ {a m:Nat},a<=idx.length->vQ idx per a=some m->tO (fun b=>(idx.getD b 0).toNat+(per.getD b 0).toNat) 0 a=m
 | 0,m,_,h=>by rw[vQ]at h;exact Oj h
 | a+1,m,ha,h=>by
  rw[vQ]at h
  rcases hc:vQ idx per a with _|x
  ·rw[hc]at h;cases h
  ·rw[hc]at h
   simp only at h
   split at h
   ·cases h
   ·rw[sO (by omega),qBT hp (by omega) hc]
    have:=hp a (by omega)
    rw[<-Oj h]
    congr 1
    omega
theorem fP (h:CntOk c):tO (radN c) 0 c.idx.length=c.acc.length:=qBT h.pos (Nat.le_refl _) h.size
theorem qLY (h:CntOk c){q:Nat}(hq:q<c.acc.length):atTo c ((List.range c.idx.length).map (digN c q)) c.idx.length=q:=by
 have key:∀b,b<=c.idx.length->atTo c ((List.range c.idx.length).map (digN c q)) b=q / tO (radN c) b c.idx.length:=by
  intro b
  induction b with
  | zero =>
   intro _;rw[fP h,Nat.div_eq_of_lt hq];rfl
  | succ b ih =>
   intro hb;have hp:=qD h.pos (a:=b) (by omega);have hg:((List.range c.idx.length).map (digN c q)).getD b 0=digN c q b:=by rw[zK (by simp;omega)];simp
   have h0:digN c q b<radN c b:=Nat.mod_lt _ hp.1;rw[atTo,ih (by omega),hg,qAV h0,rW (show b<c.idx.length by omega),Nat.mul_comm (radN c b),<-Nat.div_div_eq_div_mul];show q / stN c b / radN c b*radN c b+q / stN c b % radN c b=_;have:=Nat.div_add_mod (q / stN c b) (radN c b);rw[Nat.mul_comm]at this;exact this
 rw[key _ (Nat.le_refl _),nS (Nat.le_refl _),Nat.div_one]
theorem qKK (h:CntOk c){q a:Nat}(hq:q<c.acc.length)(ha:a<c.idx.length):kO c q a<c.acc.length:=by
 obtain⟨ns,h0⟩:=Nm ((List.range c.idx.length).map (digN c q));have hl:ns.length=c.idx.length:=by rw[h0];simp
 have h1:=qLZ h.pos (ns:=ns) (ms:=ns.set a (ns.getD a 0+1)) ha (fun b hb=>by rw[List.getD_eq_getElem?_getD,List.getD_eq_getElem?_getD,List.getElem?_set_ne (fun e=>hb e.symm)]) (by rw[List.getD_eq_getElem?_getD,List.getElem?_set_self (by omega)];rfl);rw[h0,qLY h hq,<-h0]at h1;rw[<-h1];exact qFB h.pos _ _ _ (Nat.le_refl _) h.size
theorem jJ (h:CntOk c):VD (dfaC c) c.acc.length c.idx.length:=by
 have h0:0<c.acc.length:=by
  rw[<-fP h];exact jV (fun x hx=>(qD h.pos hx).1)
 have h2:=pZ h.size;refine⟨rfl,h.k1,h.k6,rfl,by omega,by omega,by simp[dfaC],by simp[dfaC],by show (0:Int)<_;omega,fun q hq=>by rw[qGD hq];simp,fun q a hq ha=>by rw[fW hq ha];omega,fun q a hq ha=>by rw[fW hq ha];have:=qKK h hq ha;omega⟩
theorem qGC (h:CntOk c):∀(n:Nat) (u:List Nat),u.length=n->xM c.idx.length u->run (dfaC c) 0 u=atTo c (xU c.idx.length u) c.idx.length:=by
 intro n
 induction n with
 | zero =>
  intro u hn _;obtain rfl:=List.eq_nil_of_length_eq_zero hn;rw[bV]
  have:∀b,b<=c.idx.length->atTo c (List.replicate c.idx.length 0) b=0:=by
   intro b
   induction b with
   | zero=>intro _;rfl
   | succ b ih =>
    intro hb;have hp:=qD h.pos (a:=b) (by omega);have hg:(List.replicate c.idx.length 0).getD b 0=0:=by rw[zK (by simp;omega)];simp
    rw[atTo,ih (by omega),hg,qAV (show 0<iN c b+pN c b from hp.1),Nat.zero_mul]
  rw[this _ (Nat.le_refl _)];rfl
 | succ n ih =>
  intro u' hn hu
  obtain⟨u,a,rfl⟩:∃u a,u'=u++[a]:=by
   rcases List.eq_nil_or_concat u' with rfl|⟨u,a,e⟩
   ·simp at hn
   exact⟨u,a,by simpa using e⟩
  have h2:u.length=n:=by simpa using hn
  have h0:xM c.idx.length u:=fun b hb=>hu b (List.mem_append_left _ hb);have ha:a<c.idx.length:=hu a (by simp);have e:run (dfaC c) 0 (u++[a])=nx (dfaC c) (run (dfaC c) 0 u) a:=by unfold run;rw[List.foldl_append];rfl
  rw[e,ih u h2 h0];have h3:=qFB h.pos (xU c.idx.length u) _ _ (Nat.le_refl _) h.size
  have e2:nx (dfaC c) (atTo c (xU c.idx.length u) c.idx.length) a=kO c (atTo c (xU c.idx.length u) c.idx.length) a:=by
   unfold nx entN;rw[fW h3 ha,Int.toNat_natCast]
  rw[e2];refine(qLZ h.pos ha (fun b hb=>?_) ?_).symm
  ·rcases Nat.lt_or_ge b c.idx.length with h1|h1
   ·rw[bR h1,if_neg hb];rfl
   rw[List.getD_eq_getElem?_getD,List.getD_eq_getElem?_getD,List.getElem?_eq_none (by rw[uX];exact h1),List.getElem?_eq_none (by rw[uX];exact h1)]
  rw[bR ha,if_pos rfl]
def digW (c:CntV)(q:Nat):List Nat:=(List.range c.idx.length).flatMap fun a=>List.replicate (digN c q a) a
theorem qLQ (q:Nat):xM c.idx.length (digW c q):=fun x hx=>by
 obtain⟨a,ha,h⟩:=List.mem_flatMap.1 hx
 rw[List.eq_of_mem_replicate h];exact List.mem_range.1 ha
theorem qOW (q:Nat):xU c.idx.length (digW c q)=(List.range c.idx.length).map (digN c q):=by
 refine List.ext_getElem (by simp[xU]) fun b h1 h2=>?_;rw[uX]at h1;simp only[xU,List.getElem_map,List.getElem_range]
 have key:∀n,n<=c.idx.length->((List.range n).flatMap fun a=>List.replicate (digN c q a) a).count b=if b<n then digN c q b else 0:=by
  intro n
  induction n with
  | zero=>intro _;simp
  | succ n ih =>
   intro hn;rw[List.range_succ,List.flatMap_append,List.count_append,ih (by omega)];simp only[List.flatMap_cons,List.flatMap_nil,List.append_nil,List.count_replicate];by_cases e:n=b
   ·subst e;simp
   have e2:¬b=n:=fun h=>e h.symm;rcases Nat.lt_or_ge b n with h3|h3
   ·simp[h3,show b<n+1 by omega,e]
   simp[show ¬b<n by omega,show ¬b<n+1 by omega,e]
 unfold digW;rw[key _ (Nat.le_refl _),if_pos h1]
theorem qIB (h:CntOk c){q:Nat}(hq:q<c.acc.length):∃u,xM c.idx.length u/\run (dfaC c) 0 u=q :=
 ⟨digW c q,qLQ q,by rw[qGC h _ _ rfl (qLQ q),qOW,qLY h hq]⟩
end
theorem qFU {t:List (List Int)}{x L j:Nat}(h:PowR t x L j):∀n,powN t x (asN n j (L-j))=powN t x n
 | 0=>by rw[qAV (by have:=h.2.1;omega)]
 | n+1=>by
  have hj:=h.2.1
  have ih:=qFU h n
  rw[qGL (by omega)]
  split
  ·rename_i e
   have e2:asN n j (L-j)+1=L:=by omega
   have h1:powN t x L=powN t x (n+1):=by rw[<-e2,powN,powN,ih]
   rw[<-h1,h.2.2]
  ·rw[powN,powN,ih]
theorem qRT {n i p:Nat}:asN (n+i+p) i p=asN (n+i) i p:=by
 unfold asN;rw[if_neg (by omega),if_neg (by omega),show n+i+p-i=n+p by omega,show n+i-i=n by omega,Nat.add_mod_right]
theorem qGJ {c:CntV}{ns ms:List Nat}:∀a,(∀b,b<a->asN (ns.getD b 0) (iN c b) (pN c b)=asN (ms.getD b 0) (iN c b) (pN c b))->atTo c ns a=atTo c ms a
 | 0,_=>rfl
 | a+1,h=>by rw[atTo,atTo,qGJ a (fun b hb=>h b (by omega)),h a (by omega)]
section
variable {c:CntV} {S:SynV} {n k m:Nat} {el:List (List Nat)}
theorem accC (h:CntOk c){u:List Nat}(hu:xM c.idx.length u):acc (minD (dfaC c) c.idx.length) (st0 (minD (dfaC c) c.idx.length)) u=c.acc.getD (atTo c (xU c.idx.length u) c.idx.length) false:=by
 rw[qRI,qEE (jJ h) hu];unfold acc;rw[show st0 (dfaC c)=0 from rfl,qGC h _ u rfl hu];rfl
theorem dJ (h:CntOk c){u v:List Nat}(hu:xM c.idx.length u)(hv:xM c.idx.length v)(he:∀b,b<c.idx.length->asN (u.count b) (iN c b) (pN c b)=asN (v.count b) (iN c b) (pN c b)):acc (minD (dfaC c) c.idx.length) (st0 (minD (dfaC c) c.idx.length)) u=acc (minD (dfaC c) c.idx.length) (st0 (minD (dfaC c) c.idx.length)) v:=by
 rw[accC h hu,accC h hv,qGJ (ns:=xU c.idx.length u) (ms:=xU c.idx.length v) _ (fun b hb=>by rw[rZ hb,rZ hb];exact he b hb)]
theorem dZ {k i a:Nat}(ha:a<k):xM k (List.replicate i a):=fun b hb=>by rw[List.eq_of_mem_replicate hb];exact ha
theorem SynM.powW {d:DfaV}(H:SynM d S n k m el){a:Nat}(ha:a<k):∀i,Rep d k m el (powN (tabI S.tab) (S.images.getD a 0) i) (List.replicate i a)
 | 0=>H.oneR
 | i+1=>by
  have h:=H.mulR (H.powW ha i) (H.imR ha)
  rwa [<-List.replicate_succ']at h
theorem kEq (h:CntOk c)(H:SynM (minD (dfaC c) c.idx.length) S n k m el):k=c.idx.length:=by
 have h1:=H.hd.hk;have h2:=(kV (jJ h)).hk;omega
theorem qRO (h:CntOk c)(H:SynM (minD (dfaC c) c.idx.length) S n k m el):kP (tabI S.tab)=true:=by
 have e:=kEq h H;subst e;refine H.comm fun p u v z hp hu hv hz=>dJ h (vM (vM hp (vM hu hv)) hz) (vM (vM hp (vM hv hu)) hz) fun b hb=>?_;simp only[List.count_append];rw[show p.count b+(u.count b+v.count b)+z.count b=p.count b+(v.count b+u.count b)+z.count b by omega]
theorem qSZ (h:CntOk c)(H:SynM (minD (dfaC c) c.idx.length) S n k m el){a:Nat}(ha:a<c.idx.length):powN (tabI S.tab) (S.images.getD a 0) (iN c a+pN c a)=powN (tabI S.tab) (S.images.getD a 0) (iN c a):=by
 have e:=kEq h H;subst e;refine H.eqR (H.powW ha _) (H.powW ha _) fun p z hp hz=>dJ h (vM (vM hp (dZ ha)) hz) (vM (vM hp (dZ ha)) hz) fun b hb=>?_;simp only[List.count_append,List.count_replicate];by_cases e:a=b
 ·subst e
  simp only[beq_self_eq_true,if_true];rw[show p.count a+(iN c a+pN c a)+z.count a=p.count a+z.count a+iN c a+pN c a by omega,qRT,show p.count a+z.count a+iN c a=p.count a+iN c a+z.count a by omega]
 have e2:(a == b)=false:=by rw[beq_eq_false_iff_ne];exact e
 simp only[e2,Bool.false_eq_true,if_false]
theorem qTA (h:CntOk c)(H:SynM (minD (dfaC c) c.idx.length) S n k m el){a L j:Nat}(ha:a<c.idx.length)(hp:PowR (tabI S.tab) (S.images.getD a 0) L j):L<=radN c a:=by
 rcases Nat.lt_or_ge (radN c a) L with h1|h1
 ·have hr:=qD h.pos ha
  have e:=qSZ h H ha;have h2:iN c a+pN c a<L:=h1;have h3:=rX (d:=0) hp.1 (i:=iN c a+pN c a) (j:=iN c a) (by rw[wR];exact h2) (by rw[wR];omega) (by rw[jX h2,jX (by omega),e]);omega
 exact h1
theorem qGZ {l:List Bool}{f:Nat->Bool}{N r:Nat}(h:l=(List.range N).map f)(hr:r<N):l.getD r false=f r:=by
 subst h;rw[zK (by simpa using hr)];simp
theorem qSN (S:SynV)(a:Nat):(imI S.I).getD a 0=S.images.getD a 0:=by
 have:imI S.I=S.images:=by
  show (S.images.map fun(x:Nat)=>(x:Int)).map Int.toNat=S.images;rw[List.map_map];exact List.map_id'' (fun x=>Int.toNat_natCast x) _
 rw[this]
theorem qHF {r:Nat->Nat}{a:Nat}:∀ {b:Nat},a<=b->(∀x,x<b->0<r x)->tO r 0 a<=tO r 0 b:=by
 intro b
 induction b with
 | zero=>intro h _;rw[show a=0 by omega];exact Nat.le_refl _
 | succ b ih =>
  intro h hp;rcases Nat.lt_or_ge b a with h1|h1
  ·rw[show a=b+1 by omega];exact Nat.le_refl _
  rw[sO (b:=b) (Nat.zero_le _)];exact Nat.le_trans (ih h1 (fun x hx=>hp x (by omega))) (Nat.le_mul_of_pos_right _ (hp b (by omega)))
theorem qUK (h:CntOk c)(H:SynM (minD (dfaC c) c.idx.length) S n k m el):¬qMJ S.I:=by
 rintro ⟨Ls,js,hP,h1⟩;have e:=kEq h H;subst e;have hl:(S.I).images.length=c.idx.length:=by show (S.images.map _).length=_;rw[List.length_map,H.hS.lens.2.2.2.2.2.1,yQ]
 rw[hl]at hP h1;have h5:=fP h;have h2:=pZ h.size
 have key:∀a,a<=c.idx.length->∃y,vQ (vO js) (vO (perL Ls js)) a=some y/\y<=tO (radN c) 0 a:=by
  intro a
  induction a with
  | zero=>intro _;exact⟨1,rfl,by rw[nS (Nat.le_refl _)];exact Nat.le_refl _⟩
  | succ a ih =>
   intro ha;obtain⟨y,hy,h6⟩:=ih (by omega);have h0:=hP.pow a (by omega);rw[qSN]at h0;have hL:=qTA h H (a:=a) (by omega) h0;have hj:=h0.2.1;have hm:=qHF (r:=radN c) (a:=a+1) (b:=c.idx.length) ha (fun x hx=>(qD h.pos hx).1);rw[h5,sO (Nat.zero_le _)]at hm;have h3:y*Ls.getD a 0<=tO (radN c) 0 a*radN c a:=Nat.mul_le_mul h6 hL;have h4:radN c a<=tO (radN c) 0 a*radN c a:=Nat.le_mul_of_pos_left _ (jV (fun x hx=>(qD h.pos (by omega)).1));have e1:js.getD a 0+(Ls.getD a 0-js.getD a 0)=Ls.getD a 0:=by omega
   refine⟨y*Ls.getD a 0,?_,by rw[sO (Nat.zero_le _)];exact h3⟩;rw[gK hy (oZ (by rw[hP.l2];omega)) (by rw[oZ (by rw[uT,hP.l1];omega),qAE (by rw[hP.l1];omega)]),e1,if_neg (by omega)]
 obtain⟨y,hy,_⟩:=key _ (Nat.le_refl _);rw[hy]at h1;cases h1
theorem qQB {d:DfaV}(H:SynM d S n k m el){Ls js:List Nat}(hP:PowsR S.I Ls js k)(b:CntV)(hi:∀a,a<k->iN b a=js.getD a 0)(hp:∀a,a<k->pN b a=Ls.getD a 0-js.getD a 0)(ns:List Nat):
  ∀a,a<=k->∀v u,Rep d k m el v u->∃w,Rep d k m el (valC (tabI S.tab) (imI S.I) Ls a (atTo b ns a) v) (u++w)/\∀x,w.count x=if x<a then ns.getD x 0 else 0
 | 0,_,v,u,h=>⟨[],by rw[List.append_nil];exact h,fun x=>by simp⟩
 | a+1,ha,v,u,h=>by
  have hpow:=hP.pow a (by omega)
  have hj:=hpow.2.1
  have eL:iN b a+pN b a=Ls.getD a 0:=by rw[hi a (by omega),hp a (by omega)];omega
  have h0:asN (ns.getD a 0) (iN b a) (pN b a)<Ls.getD a 0:=by rw[<-eL];exact qGM (by rw[hp a (by omega)];omega)
  have e1:atTo b ns (a+1)=Ls.getD a 0*atTo b ns a+asN (ns.getD a 0) (iN b a) (pN b a):=by rw[atTo,eL,Nat.mul_comm]
  have e2:atTo b ns (a+1) / Ls.getD a 0=atTo b ns a:=by rw[e1,Nat.mul_add_div (by omega),Nat.div_eq_of_lt h0,Nat.add_zero]
  have e3:atTo b ns (a+1) % Ls.getD a 0=asN (ns.getD a 0) (iN b a) (pN b a):=by rw[e1,Nat.mul_add_mod,Nat.mod_eq_of_lt h0]
  have h1:=H.mulR h (H.powW (a:=a) (by omega) (ns.getD a 0))
  rw[valC,e2,e3,hi a (by omega),hp a (by omega),qFU (by exact hpow),qSN]
  obtain⟨w,hw,hc⟩:=qQB H hP b hi hp ns a (by omega) _ _ h1
  refine⟨List.replicate (ns.getD a 0) a++w,by rw[<-List.append_assoc];exact hw,fun x=>?_⟩
  rw[List.count_append,List.count_replicate,hc]
  by_cases e:a=x
  ·subst e;simp
  ·have e':(a == x)=false:=by rw[beq_eq_false_iff_ne];exact e
   simp only[e',Bool.false_eq_true,if_false,Nat.zero_add]
   by_cases hx:x<a
   ·rw[if_pos hx,if_pos (by omega)]
   ·rw[if_neg hx,if_neg (by omega)]
theorem qUJ (h:CntOk c)(H:SynM (minD (dfaC c) c.idx.length) S n k m el){b:CntV}(hb:qFH S.I b):b.idx.length=c.idx.length/\CntOk b/\∀u,xM c.idx.length u->b.acc.getD (atTo b (xU c.idx.length u) c.idx.length) false=c.acc.getD (atTo c (xU c.idx.length u) c.idx.length) false:=by
 obtain⟨Ls,js,hP,e1,e2,hc,ha⟩:=hb;have e:=kEq h H;subst e;have hl:(S.I).images.length=c.idx.length:=by show (S.images.map _).length=_;rw[List.length_map,H.hS.lens.2.2.2.2.2.1,yQ]
 rw[hl]at hP hc;have h0:b.idx.length=c.idx.length:=by rw[e1,uS,hP.l2]
 have h4:b.per.length=c.idx.length:=by rw[e2,uS,uT,hP.l1]
 have h1:CntOk b:=⟨by rw[h0];exact h.k1,by rw[h0];exact h.k6,by rw[h4,h0],by rw[e1,e2];exact hP.posC,by rw[h0];exact hc⟩;refine⟨h0,h1,fun u hu=>?_⟩;have h2:=qFB h1.pos (xU c.idx.length u) c.idx.length _ (by rw[h0];exact Nat.le_refl _) hc;obtain⟨w,hw,h3⟩:=qQB H hP b (fun a ha=>by rw[iN,e1,oZ (by rw[hP.l2];exact ha),Int.toNat_natCast]) (fun a ha=>by rw[pN,e2,oZ (by rw[uT,hP.l1];exact ha),qAE (by rw[hP.l1];exact ha),Int.toNat_natCast]) (xU c.idx.length u) c.idx.length (Nat.le_refl _) 0 [] H.oneR;rw[List.nil_append]at hw;have hA:=H.acR hw
 have e3:b.acc.getD (atTo b (xU c.idx.length u) c.idx.length) false=S.accept.getD (valC (tabI S.tab) (imI S.I) Ls c.idx.length (atTo b (xU c.idx.length u) c.idx.length) 0) false:=by
  rw[qGZ ha h2,hl];rfl
 rw[e3,hA,<-accC h hu];refine dJ h hw.1 hu fun x hx=>?_;rw[h3,if_pos hx,rZ hx]
end
theorem qTB {c:CntV}{S:SynV}(h:CntOk c)(hS:pS (minD (dfaC c) c.idx.length) S):qQ S.I/\kP S.I.tab=true/\¬qMJ S.I/\∀b,qFH S.I b->∀s:ByteArray,pK b s=pK c s:=by
 obtain⟨n,k,m,el,H⟩:=hS.sem;refine⟨H.valid,qRO h H,qUK h H,fun b hb s=>?_⟩;obtain⟨e1,h1,h0⟩:=qUJ h H hb;rcases hw:xN s c.idx.length with _|_
 ·rw[iZ hw,iZ (by rw[e1];exact hw)]
 rw[iD (kY.2 h) hw,iD (kY.2 h1) (by rw[e1];exact hw),e1];exact h0 _ (qI hw).1
section
variable {d:DfaV} {n k:Nat}
structure SeqI (d:DfaV)(n k:Nat)(p:List Nat):Prop where
 len:p.length=n
 norm:Norm p
 fin:∀i j,i<n->j<n->p.getD i 0=p.getD j 0->d.final.getD i false=d.final.getD j false
 co:∀i j,i<n->j<n->(yF d k).getD i 0=(yF d k).getD j 0->p.getD i 0=p.getD j 0
theorem rP (hd:VD d n k):(yF d k).length=n:=by rw[vD,hd.hn]
theorem qAT (hd:VD d n k){i j:Nat}(hi:i<n)(hj:j<n)(h:(yF d k).getD i 0=(yF d k).getD j 0):∀a,a<k->(yF d k).getD (nx d i a) 0=(yF d k).getD (nx d j a) 0:=by
 have h0:∀c∈yF d k,c<n:=by have:=oD (uE d k);rwa [rP hd]at this
 have h1:=rK hd (rP hd) h0 hi hj k (Nat.le_refl _);rw[lH hd]at h1;exact(h1.1 h).2
theorem dS (hd:VD d n k){i j:Nat}(hi:i<n)(hj:j<n)(h:(yF d k).getD i 0=(yF d k).getD j 0):d.final.getD i false=d.final.getD j false:=jL hd _ hi hj h
theorem SeqI.start (hd:VD d n k):SeqI d n k (nT d) :=
 ⟨by rw[pV,hd.hn],iY d,fun i j hi hj h=>(oX hd hi hj).1 h,fun i j hi hj h=>(oX hd hi hj).2 (dS hd hi hj h)⟩
def sD (d:DfaV)(p:List Nat)(a:Nat):List Nat:=fH p (rR d p a)
theorem pG (hd:VD d n k){p:List Nat}(hp:p.length=n)(hN:Norm p){a i j:Nat}(hi:i<n)(hj:j<n):(sD d p a).getD i 0=(sD d p a).getD j 0↔p.getD i 0=p.getD j 0/\p.getD (nx d i a) 0=p.getD (nx d j a) 0:=by
 have h1:∀c∈p,c<n:=by have:=oD hN;rwa [hp]at this
 have h0:=hd.n1;rw[sD,qDI (by rw[xT]) (fun c hc=>?_) (by omega) (by omega),nH (by omega),nH (by omega)];rw[hp];simp only[rR,List.mem_map,List.mem_range]at hc;obtain⟨q,hq,rfl⟩:=hc;exact sZ h1 (by omega)
theorem qC (d:DfaV)(p:List Nat)(a:Nat):(sD d p a).length=p.length:=by rw[sD,gX (xT d p a)]
theorem SeqI.step (hd:VD d n k){p:List Nat}(h:SeqI d n k p){a:Nat}(ha:a<k):SeqI d n k (sD d p a) :=
 ⟨by rw[qC,h.len],mV _,fun i j hi hj e=>h.fin i j hi hj ((pG hd h.len h.norm hi hj).1 e).1,fun i j hi hj e=>(pG hd h.len h.norm hi hj).2 ⟨h.co i j hi hj e,h.co _ _ (pI hd hi ha) (pI hd hj ha) (qAT hd hi hj e a ha)⟩⟩
theorem eJ (hd:VD d n k){p:List Nat}(hp:p.length=n)(hN:Norm p)(a:Nat):cls p<=cls (sD d p a)/\(cls p=cls (sD d p a)->sD d p a=p):=by
 obtain⟨h1,h2⟩:=qAR (p:=p) (q:=sD d p a) (qC d p a) (fun i j hi hj e=>((pG hd hp hN (by omega) (by omega)).1 e).1);refine⟨h1,fun e=>jZ (mV _) hN ⟨qC d p a,fun i j hi hj=>?_⟩⟩;rw[qC]at hi hj;exact⟨fun e1=>((pG hd hp hN (by omega) (by omega)).1 e1).1,fun e1=>h2 e i j hi hj e1⟩
def jB (d:DfaV)(p:List Nat):Nat->List Nat
 | 0=>p
 | a+1=>sD d (jB d p a) a
theorem SeqI.to (hd:VD d n k){p:List Nat}(h:SeqI d n k p):∀a,a<=k->SeqI d n k (jB d p a)
 | 0,_=>h
 | a+1,ha=>(SeqI.to hd h a (by omega)).step hd (by omega)
theorem eI (hd:VD d n k){p:List Nat}(h:SeqI d n k p):∀a,a<=k->cls p<=cls (jB d p a)
 | 0,_=>Nat.le_refl _
 | a+1,ha=>Nat.le_trans (eI hd h a (by omega)) (eJ hd (h.to hd a (by omega)).len (h.to hd a (by omega)).norm a).1
theorem cV (hd:VD d n k){p:List Nat}(h:SeqI d n k p):∀a,a<=k->cls (jB d p a)=cls p->jB d p a=p/\∀b,b<a->sD d p b=p
 | 0,_,_=>⟨rfl,fun b hb=>by omega⟩
 | a+1,ha,e=>by
  have hI:=h.to hd a (by omega)
  have h1:=eI hd h a (by omega)
  have h2:=eJ hd hI.len hI.norm a
  have e2:cls (jB d p (a+1))=cls (sD d (jB d p a) a):=rfl
  obtain⟨h3,h4⟩:=cV hd h a (by omega) (by omega)
  have h5:=h2.2 (by omega)
  rw[h3]at h5
  refine⟨by show sD d (jB d p a) a=p;rw[h3,h5],fun b hb=>?_⟩
  rcases Nat.lt_succ_iff_lt_or_eq.1 hb with hb|rfl
  ·exact h4 b hb
  ·exact h5
theorem SeqI.stable (hd:VD d n k){p:List Nat}(h:SeqI d n k p)(hs:∀a,a<k->sD d p a=p):p=yF d k:=by
 have h0:∀i j,i<n->j<n->p.getD i 0=p.getD j 0->∀a,a<k->p.getD (nx d i a) 0=p.getD (nx d j a) 0:=fun i j hi hj e a ha=>by
  have:=pG hd h.len h.norm (a:=a) hi hj;rw[hs a ha]at this;exact(this.1 e).2
 have key:∀m i j,i<n->j<n->p.getD i 0=p.getD j 0->(xK d k m).getD i 0=(xK d k m).getD j 0:=by
  intro m
  induction m with
  | zero=>exact fun i j hi hj e=>(oX hd hi hj).2 (h.fin i j hi hj e)
  | succ m ih =>
   intro i j hi hj e;exact(rK hd (by rw[xJ,hd.hn]) (by rw[<-hd.hn];exact qAS d k m) hi hj k (Nat.le_refl _)).2 ⟨ih i j hi hj e,fun a ha=>ih _ _ (pI hd hi ha) (pI hd hj ha) (h0 i j hi hj e a ha)⟩
 refine jZ h.norm (uE d k) ⟨by rw[h.len,rP hd],fun i j hi hj=>?_⟩;rw[h.len]at hi hj;exact⟨fun e=>key _ i j hi hj e,fun e=>h.co i j hi hj e⟩
theorem qOB (hd:VD d n k)(hr:∀q,q<n->∃w,xM k w/\run d (st0 d) w=q):minN d k=cls (yF d k):=by
 have hq:=qE hd;obtain⟨hA,h6⟩:=xV hq;have hl:=rP hd;have hN:=uE d k;refine Nat.le_antisymm h6 ?_
 have h7:∀(w:List Nat) (q:Nat),q∈yH (wQ d (yF d k)) k->xM k w->run (wQ d (yF d k)) q w∈yH (wQ d (yF d k)) k:=by
  intro w
  induction w with
  | nil=>exact fun q hq _=>hq
  | cons a w ih =>
   intro q h5 hw;obtain⟨j,hj,e⟩:=List.getElem_of_mem h5;have h1:=hA.cl j a (by omega) hj (hw a (by simp));rw[zK hj,e]at h1;exact ih _ h1 (fun b hb=>hw b (List.mem_cons_of_mem _ hb))
 have h0:st0 (wQ d (yF d k))∈yH (wQ d (yF d k)) k:=by
  rw[<-hA.hd.2,zK hA.hd.1];exact List.getElem_mem _
 have h4:∀c,c<cls (yF d k)->c∈yH (wQ d (yF d k)) k:=fun c hc=>by
  obtain⟨h1,h2⟩:=pU hN hc;rw[hl]at h2;obtain⟨w,hw,e⟩:=hr _ h2;have h3:=h7 w _ h0 hw;rw[jU,aV hd hl hN (lH hd) w (oU hd) hw,e,h1]at h3;exact h3
 have:=(List.nodup_range (n:=cls (yF d k))).length_le_of_subset (fun c hc=>h4 c (List.mem_range.1 hc));simpa [minN] using this
theorem SeqI.cls_le (hd:VD d n k){p:List Nat}(h:SeqI d n k p):cls p<=cls (yF d k) :=
 (qAR (p:=p) (q:=yF d k) (by rw[h.len,rP hd]) (fun i j hi hj e=>h.co i j (by rw[<-h.len];exact hi) (by rw[<-h.len];exact hj) e)).1
theorem minQ (hd:VD d n k):minD (wQ d (yF d k)) k=minD d k:=by
 refine eR (qE hd) hd fun w hw=>?_;rw[jU,lX hd (oU hd) hw]
end
open Go.RowKit
def qT (M:Nat)(p q:List Nat):List Nat:=List.zipWith (fun a b=>a*M+b) p q
theorem rL {M:Nat}{p q:List Nat}(h:q.length=p.length):(qT M p q).length=p.length:=by simp[qT,h]
theorem qHL {M:Nat}{p q:List Nat}(h:q.length=p.length){i:Nat}(hi:i<p.length):(qT M p q).getD i 0=p.getD i 0*M+q.getD i 0:=by
 rw[zK (by rw[rL h];exact hi),zK hi,zK (show i<q.length by omega)];simp[qT]
theorem qJX {M c:Nat}{p q:List Nat}(hp:∀x∈p,x<c)(hq:∀x∈q,x<M):∀x∈qT M p q,x<c*M:=by
 intro x hx;obtain⟨i,hi,rfl⟩:=List.getElem_of_mem hx;simp only[qT,List.getElem_zipWith];have h0:i<p.length/\i<q.length:=by simp only[qT,List.length_zipWith]at hi;omega
 have h1:=hp _ (List.getElem_mem h0.1);have h2:=hq _ (List.getElem_mem h0.2)
 generalize p[i]=a at h1⊢
 generalize q[i]=b at h2⊢
 have:a*M+M<=c*M:=by rw[<-Nat.succ_mul];exact Nat.mul_le_mul_right M h1
 omega
theorem qDZ {M:Nat}{p q:List Nat}(h:q.length=p.length)(hq:∀x∈q,x<M)(a9:∀x∈q,x<p.length):numb (qT M p q)=fH p q:=by
 refine lY _ _ (by rw[rL h,qP h]) fun i j hi hj=>?_;rw[rL h]at hi hj;simp only[qT,lJ,List.getElem_zipWith];rw[bF (Nat.le_of_lt (a9 _ (List.getElem_mem _))) (Nat.le_of_lt (a9 _ (List.getElem_mem _)))];have h1:=hq _ (List.getElem_mem (show i<q.length by omega));have h2:=hq _ (List.getElem_mem (show j<q.length by omega));constructor
 ·intro e
  have e1:(p[i]*M+q[i]) / M=p[i]:=by rw[Nat.mul_comm,Nat.mul_add_div (by omega),Nat.div_eq_of_lt h1];omega
  have e2:(p[j]*M+q[j]) / M=p[j]:=by rw[Nat.mul_comm,Nat.mul_add_div (by omega),Nat.div_eq_of_lt h2];omega
  have e3:p[i]=p[j]:=by rw[<-e1,<-e2,e]
  rw[e3]at e;exact⟨e3,by omega⟩
 rintro ⟨e1,e2⟩;rw[e1,e2]
def numA (L:List Nat)(K:Nat):List Nat:=(List.range K).map fun i=>if i∈L then L.idxOf i+1 else 0
theorem nW (L:List Nat)(K:Nat):(numA L K).length=K:=by simp[numA]
theorem qFW {L:List Nat}{K i:Nat}(hi:i<K):(numA L K).getD i 0=if i∈L then L.idxOf i+1 else 0:=by
 rw[zK (by rw[nW];exact hi)];simp[numA]
theorem qNR (K:Nat):numA [] K=List.replicate K 0:=by
 refine List.ext_getElem (by simp[numA]) fun i h1 h2=>by simp[numA]
theorem qNQ {L:List Nat}{K i:Nat}(hi:i ∉ L):(numA L K).set i (L.length+1)=numA (L++[i]) K:=by
 refine List.ext_getElem (by simp[numA]) fun j h1 h2=>?_;rw[List.getElem_set];have hj:j<K:=by simpa [numA] using h2
 simp only[numA,List.getElem_map,List.getElem_range]
 split
 ·rename_i e
  subst e;rw[if_pos (by simp),List.idxOf_append,if_neg hi];simp
 rename_i e
 by_cases hj:j∈L
 ·rw[if_pos hj,if_pos (by simp[hj]),List.idxOf_append,if_pos hj]
 rw[if_neg hj,if_neg (by simp[hj];omega)]
def midC (l p:List Nat)(k:Nat):List Nat:=(numb l).take k++p.drop k
theorem nY {l p:List Nat}{k:Nat}(h:l.length=p.length)(hk:k<=p.length):(midC l p k).length=p.length:=by simp[midC,yW,h];omega
theorem qOF {l p:List Nat}{k:Nat}(h:l.length=p.length)(hk:k<p.length):(midC l p k).getD k 0=p.getD k 0:=by
 have hl:((numb l).take k).length=k:=by rw[List.length_take,yW];omega
 rw[List.getD_eq_getElem?_getD,midC,List.getElem?_append_right (by omega),hl];simp[List.getD]
theorem qOE {l p:List Nat}{k:Nat}(h:l.length=p.length)(hk:k<p.length):(midC l p k).set k ((numb l).getD k 0)=midC l p (k+1):=by
 have hl:((numb l).take k).length=k:=by rw[List.length_take,yW];omega
 rw[midC,List.set_append_right _ _ (by omega),hl,Nat.sub_self,midC,yD (d:=0) (by rw[yW];omega),List.append_assoc];rw[List.drop_eq_getElem_cons hk,List.set_cons_zero];rfl
theorem qOG {l p:List Nat}{k:Nat}(h:l.length=p.length)(hk:k=p.length):midC l p k=numb l:=by
 subst hk;rw[midC,List.drop_length,List.append_nil,List.take_of_length_le (by rw[yW];omega)]
theorem qJC {am b x K:Nat}(hx:x=am+b)(a9:x<K)(hK:K<=1000000):wrap64 (am:Int)=(am:Int)/\wrap64 ((am:Int)+(b:Int))=(x:Int)/\IntKind.i64.wrap ((am:Int)+(b:Int))=(x:Int)/\IntKind.i64.wrap (am:Int)=(am:Int):=by
 have e3:(am:Int)+(b:Int)=(x:Int):=by omega
 rw[e3];exact⟨IntWalk.wrap64_in _ (by omega),IntWalk.wrap64_in _ (by omega),wG (by omega),wG (by omega)⟩
theorem qBM (w:World)(g gm n c M:Nat)(p q:List Nat)(hp:p.length=n)(hq:q.length=n)(a8:∀x∈p,x<c)(a9:∀x∈q,x<M)(a7:c*M<=1000000)(hc:c<=1000000)(hM:M<=1000000)(hn:n<=1000000)(a6:g≠gm)(hA:Arr w g 3 (nats p))(hB:Arr w gm 3 (nats q)):Calls Try.prog 67 #[.slice (some ⟨g,0,none⟩) n n,.slice (some ⟨gm,0,none⟩) n n,.int .i64 (c:Int),.int .i64 (M:Int)] w fun e w'=>e=.returned (.int .i64 ((cls (numb (qT M p q)):Nat):Int))/\Arr w' g 3 (nats (numb (qT M p q)))/\w.grownBy w' (some g):=by
 have hK:=qJX a8 a9;have a3:=rL (M:=M) (p:=p) (q:=q) (by omega);have H8:=Kh (fun(i:Nat) (hi:i<p.length)=>qHL (M:=M) (p:=p) (q:=q) (by omega) hi);obtain⟨l,hl⟩:=Nm (qT M p q);rw[<-hl]at hK a3 H8⊢;obtain⟨K,b5⟩:=Nm (c*M);rw[<-b5]at hK a7;have a0:(c:Int)*(M:Int)=(K:Int):=by rw[b5];simp
 have b4:IntKind.i64.wrap ((c:Int)*(M:Int))=(K:Int):=by rw[a0];exact wG (by omega)
 obtain⟨h6,d1,h8,HK,HA,HB⟩:=K6 hp hq a3 hK hA hB;have e3:=hA.lt;have c7:=hB.lt;have f2:=Kh a9;have f3:=Kh a8;clear hp hq a3 hK hA hB hl b5 a9 a8;go_enter Try.func67,Try.ntmps67;go_wp2_with (first|(at_make;refine qV rfl _ _ _ rfl yJ rfl .i64 .i64 _ _ K rfl rfl (by first|exact a0|exact b4|rfl) (by first|exact a0|exact b4|rfl) ?b1 ?b2 ?_;(case b1=>omega);(case b2=>(unfold maxLen;omega));intro w2 H1 c8 d8)|fail);clear a0 b4;obtain⟨NB,b3⟩:=Nm w.heap.size;rw[<-b3]at H1⊢;obtain⟨d2,a2,f4⟩:=K3 H1 c8 b3;have b0:g≠NB:=by omega
 have a5:gm≠NB:=by omega
 clear H1 c8 b3
 go_loopg [10,11,12,19] n (fun gh v10 a11 a12 i wr=>∃(k:Nat),gh+k=n/\i=.int .i64 k/\v10=.int .i64 (((yO (l.take k)).length:Nat):Int)/\Arr wr NB 3 (nats (numA (yO (l.take k)) K))/\Arr wr g 3 (nats (midC l p k))/\Arr wr gm 3 (nats q)/\w.grownBy wr (some g))
 case atStart=>exact⟨0,rfl,rfl,rfl,by rw[show yO (l.take 0)=[] from rfl,qNR,yS];exact d2.out,by rw[show midC l p 0=p by simp[midC]];exact HA.out.kept a2.out (by simp),HB.out.kept a2.out (by simp),wU a2.out⟩
 clear d2 a2;obtain⟨k,hg,rfl,rfl,hN,hC,hQ,a4⟩:=hrel;obtain⟨HG,HN,HC,HQ,b6⟩:=K5 hg hN hC hQ a4;clear hg;by_cases hk:k<n
 ·have d9:(k:Int)<n:=by omega
  have h9:k<p.length:=(by rw[h6.out];exact hk);have H4:k<l.length:=(by rw[h8.out];exact h9);have c1:=Arr.nat hC (i:=k) (by rw[nY h8.out (by omega)];exact h9);rw[qOF h8.out h9]at c1;have c2:=Arr.nat hQ (i:=k) (by rw[d1.out];exact hk);have hx:=H8.out k h9;have h5:l.getD k 0<K:=HK.out _ (by rw[zK H4];exact List.getElem_mem _);have c3:=Arr.nat hN (i:=l.getD k 0) (by rw[nW];exact h5);rw[qFW h5]at c3;have fN:=hN.frozen (l.getD k 0);have fC:=hC.frozen k;have H5:=jH H4;have h0:=bJ H4;rw[<-zK (d:=0) H4]at H5 h0;have c0:=qOE h8.out h9;have c9:(yO (l.take k)).length<=k:=by have:=uZ (l.take k);rw[List.length_take]at this;omega
  obtain⟨x,b7⟩:=Nm (l.getD k 0);obtain⟨a,ha⟩:=Nm (p.getD k 0);obtain⟨b,hb⟩:=Nm (q.getD k 0);obtain⟨F,hF⟩:=Nm (yO (l.take k));rw[<-b7]at hx h5 c3 fN H5 h0;rw[<-ha]at c1 hx;rw[<-hb]at c2 hx;rw[<-hF]at c3 H5 h0 c9 HN;obtain⟨d5,d3,f7⟩:=K3 H5 c0 hF;have f1:a<c:=(by rw[ha];exact f3.out _ (by rw[zK h9];exact List.getElem_mem _));have f0:b<M:=(by rw[hb];exact f2.out _ (by rw[zK (show k<q.length by rw[d1.out];exact hk)];exact List.getElem_mem _));have d7:(x:Int)<K:=(by exact_mod_cast h5);have d0:a*M<=1000000:=Nat.le_trans (Nat.le_trans (hx ▸ Nat.le_add_right _ _) (Nat.le_of_lt h5)) a7;obtain⟨am,H2⟩:=Nm (a*M);have e1:(a:Int)*(M:Int)=(am:Int):=by rw[H2];simp
  rw[<-H2]at hx d0;have E1:=Kh e1;clear e1 H2;obtain⟨e5,e6,e4,e0⟩:=qJC hx h5 a7;have e2:IntKind.i64.wrap ((a:Int)*(M:Int))=(am:Int):=by rw[E1.out];exact e0
  clear hx c0 H5 b7 ha hb hF f1 f0 d0 h9 H4 hN hC hQ a4 e0;rw[<-f7.out];by_cases hm:x∈F
  ·rw[if_pos hm]at c3 h0
   have HM:=Kh hm;obtain⟨y,hy⟩:=Nm (F.idxOf x);have g3:y<F.length:=(by rw[hy];exact List.idxOf_lt_length_of_mem hm);rw[<-hy]at c3 h0;have h7:=Kh h0;have b9:¬((y+1:Nat):Int)=0:=by omega
   clear hm hy h0;obtain⟨z,hz⟩:=Nm (y+1);rw[<-hz]at c3 b9;have g2:((z:Int) == 0)=false:=by rw[beq_eq_false_iff_ne];exact b9
   have d6:(z:Int)-1=(y:Int):=by omega
   have g1:IntKind.i64.wrap ((z:Int)-1)=(y:Int):=by rw[d6];exact wG (by omega)
   have HZ:=Kh hz;clear hz;have e1:=E1.out;go_wp2
   go_quiet (fail)
   go_wp2;go_roundg (n-(k+1))
   case measure=>have:=HG.out;omega
   have e8:∀W:World,W.heap=wr.heap->W.os=wr.os->W.tape=wr.tape->W.output=wr.output->wr.grownBy (W.setCell ⟨g,k,none⟩ (.int .i64 (y:Int))) (some g):=fun W h1 h2 h3 h4=>zH (wV (zV wr (some g)) h2 h3 h4 h1) (zF W _ _);have H0:=e8 (wr.drewN nq) rfl rfl rfl rfl;have H6:yO (l.take (k+1))=F:=by rw[d5.out,tE HM.out]
   refine⟨k+1,by have:=HG.out;omega,by go_num,by rw[H6],?_,?_,HQ.out.kept H0 (fun e=>a6 (Oj e)),zH b6.out H0⟩
   ·rw[H6];exact HN.out.kept H0 (fun e=>b0 (Oj e))
   rw[<-d3.out,h7.out];exact(HC.out.of_heap rfl).nat_set k (by rw[nY h8.out (by rw[h6.out];omega),h6.out];exact hk) y
  rw[if_neg hm]at c3 h0;have HM:=Kh hm;have h7:=Kh h0;obtain⟨L,hL⟩:=Nm F.length;rw[<-hL]at c9 h0 h7⊢;have a1:=Kh hL;have g4:L<=1000000:=by omega
  clear hm h0 hL;have e1:=E1.out;go_upto_region 6 with fail
  go_quiet (fail)
  go_upto_region 10 with fail;have H9:wr.grownBy ((wr.drewN nq).setCell ⟨NB,x,none⟩ (.int .i64 ((L:Int)+1))) (some NB):=zH (zT wr nq (some NB)) (zF (wr.drewN nq) ⟨NB,x,none⟩ _);have H3:=((HN.out.of_heap (w':=wr.drewN nq) rfl).nat_set x (by rw[nW];exact h5) (L+1));rw[a1.out,qNQ HM.out,<-a1.out]at H3;rw[show ((L+1:Nat):Int)=(L:Int)+1 by omega]at H3;obtain⟨w5,b8⟩:=Nm ((wr.drewN nq).setCell ⟨NB,x,none⟩ (.int .i64 ((L:Int)+1)));rw[<-b8]at H9 H3⊢;have f6:=Kh H3;have d4:=Kh H9
  have c5:w5.cell? ⟨NB,x,none⟩=some (.int .i64 ((L:Int)+1)):=by
   have:=Arr.nat H3 x (by rw[nW];exact h5);rw[qFW h5,if_pos (by simp),List.idxOf_append,if_neg HM.out]at this;rw[this];simp[a1.out]
  have H7:=HC.out.kept H9 (fun e=>b0 (Oj e).symm);have f5:=H7.frozen k;have c6:=Arr.nat H7 k (by rw[nY h8.out (by rw[h6.out];omega),h6.out];exact hk);have e7:=H7.lt;have g0:=Kh H7;have e9:(L:Int)+1-1=(L:Int):=by omega
  have e10:wrap64 (L:Int)=(L:Int):=IntWalk.wrap64_in _ (by omega);clear b8 H9 H3 H7 c1 c2 c3 fN fC e1 e2 e4 e5 e6;go_wp2;go_roundg (n-(k+1))
  case measure=>have:=HG.out;omega
  have H0:=zF w5 ⟨g,k,none⟩ (.int .i64 (L:Int));have H6:yO (l.take (k+1))=F++[x]:=by rw[d5.out,vN HM.out]
  refine⟨k+1,by have:=HG.out;omega,by go_num,by rw[H6,List.length_append,<-a1.out];simp,?_,?_,(HQ.out.kept d4.out (fun e=>a5 (Oj e).symm)).kept H0 (fun e=>a6 (Oj e)),zH (yM b6.out d4.out (by show _<=NB;have:=f4.out;omega)) H0⟩
  ·rw[H6];exact f6.out.kept H0 (fun e=>b0 (Oj e))
  rw[<-d3.out,h7.out];exact g0.out.nat_set k (by rw[nY h8.out (by rw[h6.out];omega),h6.out];exact hk) L
 have c4:k=n:=by have:=HG.out;omega
 have d9:¬(k:Int)<n:=(by omega);have HE:Hid (l.take k=l):=Kh (List.take_of_length_le (by rw[h8.out,h6.out];omega));have f8:Hid (midC l p k=numb l):=Kh (qOG h8.out (by rw[h6.out];exact c4));have f9:=Kh (qGG l);rw[f8.out]at HC;clear c4 a4 hN hC hQ;go_wp2;go_ret;exact⟨by rw[f9.out,HE.out];rfl,HC.out,b6.out⟩
end Go.Proofs.Ytobakifdllameaa
