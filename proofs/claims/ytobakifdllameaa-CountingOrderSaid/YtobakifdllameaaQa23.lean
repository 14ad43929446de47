/- Part 23 of the proof. -/
import Derived.Test.YtobakifdllameaaQa22
import Derived.BigQuiet
import Derived.Deep.Cut
set_option linter.unusedVariables false
set_option linter.unusedSimpArgs false
set_option maxRecDepth 100000
set_option maxHeartbeats 16000000
namespace Go.Proofs.Ytobakifdllameaa
section
variable {gs:List (List Nat)} {n:Nat} {el:List (List Nat)} {pr la:List Int} {ri:List (List Nat)}
theorem oT:(tabI (tabE pr la ri el.length)).length=el.length:=by rw[xJ,wF]
theorem Enm.entV (h:Enm gs n el pr la ri el.length)(hg:∀g∈gs,IsT n g){x y:Nat}(hx:x<el.length)(hy:y<el.length):entN (tabI (tabE pr la ri el.length)) x y<el.length/\el.getD (entN (tabI (tabE pr la ri el.length)) x y) []=wI (el.getD x []) (el.getD y []):=by
 rw[qFG];exact h.tab hg hx hy
theorem Enm.shapeV (h:Enm gs n el pr la ri el.length)(hg:∀g∈gs,IsT n g)(h4:el.length<=400):sD (tabI (tabE pr la ri el.length))=0:=by
 have hp:=h.en.pos;unfold sD;rw[oT,if_neg (by omega),if_neg (by omega),if_pos];rw[List.all_eq_true];intro r hr;obtain⟨x,hx,rfl⟩:=List.getElem_of_mem hr;have h0:x<el.length:=by rw[oT]at hx;exact hx
 rw[<-zN (d:=[]) hx]
 have hl:((tabI (tabE pr la ri el.length)).getD x []).length=el.length:=by
  rw[nZ,List.length_map,zN (by rw[wF];exact h0)];simp[tabE,tN]
 refine pH.2 ⟨hl,fun y hy=>?_⟩;rw[hl]at hy;have e:=lI (tabE pr la ri el.length) x y;have h1:=(h.tab hg h0 hy).1;unfold Go.Proofs.Ytobakifdllameaa.ent at e;rw[e];omega
theorem Enm.assocV (h:Enm gs n el pr la ri el.length)(hg:∀g∈gs,IsT n g):qIR (tabI (tabE pr la ri el.length)):=by
 intro g h0 x y hx hy;rw[oT]at h0 hx hy;obtain⟨a1,a2⟩:=h.entV hg hx h0;obtain⟨b1,b2⟩:=h.entV hg h0 hy;obtain⟨c1,c2⟩:=h.entV hg hx b1;refine pJ (d:=[]) h.en.nodup (h.entV hg a1 hy).1 c1 ?_;rw[(h.entV hg a1 hy).2,c2,b2,a2,gI (h.en.it _ (uP hx)) (h.en.it _ (uP h0))]
end
theorem oC.tab {d:DfaV}{S:SynV}(h:oC d S):Shape (tabI S.tab)/\rG (tabI S.tab)=0:=by
 obtain⟨n,k,m,M,hd,rfl,hM,hm,el,pr,la,ri,mm,hf,hl,e1,e2,_⟩:=h;have hs:=hf.shapeV (nJ hM) hl;rw[e2];exact⟨qCF hs,kW hs (hf.assocV (nJ hM))⟩
theorem qN.tab {I:SynI}(h:qN I):Shape I.tab/\rG I.tab=0:=by
 obtain⟨_,S,h1,e⟩:=h;rw[<-e];exact h1.tab
open Go.Maps Go.RowKit
def valC (t:List (List Int))(im Ls:List Nat):Nat->Nat->Nat->Nat
 | 0,_,v=>v
 | a+1,r,v=>valC t im Ls a (r / Ls.getD a 0) (entN t v (powN t (im.getD a 0) (r % Ls.getD a 0)))
def imI (I:SynI):List Nat:=I.images.map Int.toNat
structure PowsR (I:SynI)(Ls js:List Nat)(a:Nat):Prop where
 l1:Ls.length=a
 l2:js.length=a
 pow:∀b,b<a->PowR I.tab ((imI I).getD b 0) (Ls.getD b 0) (js.getD b 0)
def perL (Ls js:List Nat):List Nat:=(List.range Ls.length).map fun b=>Ls.getD b 0-js.getD b 0
def qIQ (I:SynI)(c:CntV):Prop:=∃Ls js,PowsR I Ls js I.images.length/\c.idx=vK js/\c.per=vK (perL Ls js)/\uE c.idx c.per I.images.length=some c.acc.length/\c.acc=(List.range c.acc.length).map fun i=>I.accept.getD (valC I.tab (imI I) Ls I.images.length i 0) false
def qNM (I:SynI):Prop:=∃Ls js,PowsR I Ls js I.images.length/\uE (vK js) (vK (perL Ls js)) I.images.length=none
def qLZ (I:SynI)(w:World)(e:Ending)(w':World):Prop :=
 ((∃z:Int,e=.returned (.tuple #[.agg #[.slice none 0 0,.slice none 0 0,.slice none 0 0],.int .i64 z])/\((z=8/\¬qN I)\/(z=20/\qN I/\jO I.tab=false)\/(z=3/\qN I/\jO I.tab=true/\qNM I))) \/
 ∃c v,e=.returned (.tuple #[v,.int .i64 0])/\qN I/\jO I.tab=true/\qIQ I c/\jR w'.heap.size w' v c)/\w.grownBy w' none
theorem sV (Ls js:List Nat):(perL Ls js).length=Ls.length:=by simp[perL]
theorem tU (l:List Nat):(vK l).length=l.length:=by simp[vK]
theorem mI (l:List Nat):ints (vK l)=nats l:=by simp[ints,vK,nats]
theorem aK {l:List Nat}{i:Nat}(h:i<l.length):(vK l).getD i 0=((l.getD i 0:Nat):Int):=by
 rw[vK,xS (x:=0) h]
theorem qJP {Ls js:List Nat}{b:Nat}(h:b<Ls.length):(perL Ls js).getD b 0=Ls.getD b 0-js.getD b 0:=by
 rw[zN (by rw[sV];exact h)];simp[perL]
theorem qGF {Ls js:List Nat}(L j:Nat)(h:js.length=Ls.length):perL (Ls++[L]) (js++[j])=perL Ls js++[L-j]:=by
 refine List.ext_getElem (by simp[perL]) fun i h1 h2=>?_;rw[sV,List.length_append,List.length_singleton]at h1;rcases Nat.lt_or_ge i Ls.length with h3|h3
 ·rw[List.getElem_append_left (by rw[sV];exact h3)]
  simp only[perL,List.getElem_map,List.getElem_range];rw[List.getD_eq_getElem?_getD,List.getD_eq_getElem?_getD,List.getElem?_append_left h3,List.getElem?_append_left (by omega),<-List.getD_eq_getElem?_getD,<-List.getD_eq_getElem?_getD]
 have e:i=Ls.length:=by omega
 subst e;rw[List.getElem_append_right (by rw[sV];exact Nat.le_refl _)];simp[perL,List.getD_eq_getElem?_getD,<-h]
theorem PowsR.add {I:SynI}{Ls js:List Nat}{a L j:Nat}(h:PowsR I Ls js a)(hp:PowR I.tab ((imI I).getD a 0) L j):PowsR I (Ls++[L]) (js++[j]) (a+1) where
 l1:=by simp[h.l1]
 l2:=by simp[h.l2]
 pow:=fun b hb=>by
  rcases Nat.lt_or_ge b a with h1|h1
  ·rw[List.getD_eq_getElem?_getD (l:=Ls++[L]),List.getD_eq_getElem?_getD (l:=js++[j]),List.getElem?_append_left (by rw[h.l1];exact h1),List.getElem?_append_left (by rw[h.l2];exact h1),<-List.getD_eq_getElem?_getD,<-List.getD_eq_getElem?_getD]
   exact h.pow b h1
  ·have e:b=a:=by omega
   subst e
   rw[List.getD_eq_getElem?_getD (l:=Ls++[L]),List.getD_eq_getElem?_getD (l:=js++[j]),List.getElem?_append_right (by rw[h.l1];exact Nat.le_refl _),List.getElem?_append_right (by rw[h.l2];exact Nat.le_refl _),h.l1,h.l2,Nat.sub_self]
   exact hp
theorem PowsR.posC {I:SynI}{Ls js:List Nat}{a:Nat}(h:PowsR I Ls js a):PosC (vK js) (vK (perL Ls js)):=fun b hb=>by
 rw[tU,h.l2]at hb
 have h1:=(h.pow b hb).2.1
 rw[aK (by rw[h.l2];exact hb),aK (by rw[sV,h.l1];exact hb),qJP (by rw[h.l1];exact hb)]
 omega
def lQ (I:SynI)(Ls:List Nat)(k c i:Nat):List Bool:=((List.range i).map fun j=>I.accept.getD (valC I.tab (imI I) Ls k j 0) false)++List.replicate (c-i) false
theorem qEA (I:SynI)(Ls:List Nat)(k c:Nat):lQ I Ls k c 0=List.replicate c false:=by simp[lQ]
theorem qHG {I:SynI}{Ls:List Nat}{k c i:Nat}(h:i<c):(lQ I Ls k c i).set i (I.accept.getD (valC I.tab (imI I) Ls k i 0) false)=lQ I Ls k c (i+1):=by
 unfold lQ;rw[List.set_append_right _ _ (by simp),List.range_succ,List.map_append];simp only[List.length_map,List.length_range,Nat.sub_self];rw[show c-i=(c-(i+1))+1 by omega,List.replicate_succ];simp
theorem qHH (I:SynI)(Ls:List Nat)(k c:Nat):lQ I Ls k c c=(List.range c).map fun j=>I.accept.getD (valC I.tab (imI I) Ls k j 0) false:=by simp[lQ]
def iR (I:SynI)(Ls:List Nat):List (List Nat):=(List.range Ls.length).map fun b=>vQ I.tab ((imI I).getD b 0) (Ls.getD b 0)
theorem uW (I:SynI)(Ls:List Nat):(iR I Ls).length=Ls.length:=by simp[iR]
theorem qDQ (I:SynI)(Ls:List Nat)(L:Nat):iR I (Ls++[L])=iR I Ls++[vQ I.tab ((imI I).getD Ls.length 0) L]:=by
 refine List.ext_getElem (by simp[iR]) fun i h1 h2=>?_;rw[uW,List.length_append,List.length_singleton]at h1;rcases Nat.lt_or_ge i Ls.length with h3|h3
 ·rw[List.getElem_append_left (by rw[uW];exact h3)]
  simp only[iR,List.getElem_map,List.getElem_range];rw[List.getD_eq_getElem?_getD (l:=Ls++[L]),List.getElem?_append_left h3,<-List.getD_eq_getElem?_getD]
 have e:i=Ls.length:=by omega
 subst e;rw[List.getElem_append_right (by rw[uW];exact Nat.le_refl _)];simp[iR,List.getD_eq_getElem?_getD]
theorem qGD {I:SynI}{Ls:List Nat}{b:Nat}(h:b<Ls.length):(iR I Ls).getD b []=vQ I.tab ((imI I).getD b 0) (Ls.getD b 0):=by
 rw[zN (by rw[uW];exact h)];simp[iR]
inductive CoS (I:SynI)(w6:World)(o k pg:Nat)(hsP:List Value)(Ls js:List Nat)(sI:Option Addr)(cI:Nat)(sP:Option Addr)(cP:Nat)(va:Value)(tl:List RowS)(w:World):Prop
 | mk (X:Nat->Prop) (hB:BoxS w6.heap.size X o 28 w6 w (⟨w6.heap.size,22,.slice (some ⟨pg,0,none⟩) k k,k,hsP,1⟩::⟨w6.heap.size,3,.slice sI Ls.length cI,Ls.length,nats js,1⟩::⟨w6.heap.size,3,.slice sP Ls.length cP,Ls.length,nats (perL Ls js),1⟩::tl) #[.slice sI Ls.length cI,.slice sP Ls.length cP,va] w)
  (hT:xO X 3 nats w (hsP.take Ls.length) (iR I Ls))
section
variable {I:SynI} {w6 w w':World} {o k pg:Nat} {hsP:List Value} {Ls js:List Nat} {sI:Option Addr} {cI:Nat} {sP:Option Addr} {cP:Nat} {va:Value} {tl:List RowS}
theorem CoS.grow (h:CoS I w6 o k pg hsP Ls js sI cI sP cP va tl w)(hg:w.grownBy w' none):CoS I w6 o k pg hsP Ls js sI cI sP cP va tl w':=by
 obtain⟨X,hB,hT⟩:=h;exact⟨X,(hB.grow hg).rebase,hT.kept (hB.mem.keep hg) hg.size⟩
theorem CoS.g (h:CoS I w6 o k pg hsP Ls js sI cI sP cP va tl w):w6.grownBy w none:=by
 obtain⟨X,hB,hT⟩:=h;exact hB.grown
theorem CoS.cells (h:CoS I w6 o k pg hsP Ls js sI cI sP cP va tl w):w.heap[o]?=some (.cells #[.slice sI Ls.length cI,.slice sP Ls.length cP,va] 28 (0,0))/\Arr w pg 22 hsP/\hsP.length=k/\w.ownsRow w6.heap.size 3 1 (.slice sI Ls.length cI) Ls.length (nats js)/\w.ownsRow w6.heap.size 3 1 (.slice sP Ls.length cP) Ls.length (nats (perL Ls js)):=by
 obtain⟨X,hB,hT⟩:=h;have h1:=hB.own (r:=⟨w6.heap.size,22,.slice (some ⟨pg,0,none⟩) k k,k,hsP,1⟩) (by simp);exact⟨hB.box,Arr.of_owns h1,by have:=h1.1;simpa using this,hB.own (r:=⟨w6.heap.size,3,.slice sI Ls.length cI,Ls.length,nats js,1⟩) (by simp),hB.own (r:=⟨w6.heap.size,3,.slice sP Ls.length cP,Ls.length,nats (perL Ls js),1⟩) (by simp)⟩
theorem CoS.row (h:CoS I w6 o k pg hsP Ls js sI cI sP cP va tl w){b:Nat}(hb:b<Ls.length)(h0:0<Ls.getD b 0)(hk:Ls.length<=k):∃rb ro rc,w.cell? ⟨pg,b,none⟩=some (.slice (some ⟨rb,ro,none⟩) (Ls.getD b 0) rc)/\Ls.getD b 0<=rc/\rc<=maxLen/\∀i,i<Ls.getD b 0->w.cell? ⟨rb,ro+i,none⟩=some (.int .i64 ((powN I.tab ((imI I).getD b 0) i:Nat):Int)):=by
 obtain⟨_,hA,hl,_,_⟩:=h.cells;obtain⟨X,hB,hT⟩:=h;have h1:=hT.1;have h2:b<(hsP.take Ls.length).length:=by rw[List.length_take];omega
 have h3:=(hT.2 b h2 (by rw[uW];exact hb)).1.row;have e:(iR I Ls)[b]'(by rw[uW];exact hb)=vQ I.tab ((imI I).getD b 0) (Ls.getD b 0):=by rw[<-zN (d:=[]) (by rw[uW];exact hb),qGD hb]
 rw[e]at h3;have hc:=hA.cell b (by omega);rw[show hsP[b]'(by omega)=(hsP.take Ls.length)[b]'h2 by simp]at hc;obtain⟨rb,ro,rc,ev,_,r1,r2,r3⟩:=h3.some_ (by rw[zQ,vH];exact h0);rw[zQ,vH]at ev r1;rw[ev]at hc;exact⟨rb,ro,rc,hc,r1,r2,fun i hi=>by rw[<-bU hi];exact r3.nat i (by rw[vH];exact hi)⟩
end
end Go.Proofs.Ytobakifdllameaa
namespace Go.Proofs.Ytobakifdllameaa
open Go.RowKit
def dQ:DfaV:=⟨1,0,[false,false,false,true],[[1],[2],[3],[3]]⟩
def elQ:List (List Nat):=[[0,1,2,3],[1,2,3,3],[2,3,3,3],[3,3,3,3]]
def gsQ:List (List Nat):=[[1,2,3,3]]
def prQ:List Int:=[-1,0,1,2]
def laQ:List Int:=[-1,0,0,0]
def riQ:List (List Nat):=[[1],[2],[3],[3]]
theorem qPE:xT gsQ (yJ gsQ 4 gsQ.length) 4=((elQ,prQ,laQ),riQ):=by decide +kernel
theorem qCT:vX dQ=0:=by decide +kernel
theorem qOB:VD dQ 4 1:=qMC qCT
def sQ:SynV:=⟨1,tabE prQ laQ riQ 4,wP prQ laQ 4,imgE gsQ elQ,accE dQ.final 0 elQ,mN 4 (nD (metL 4 [1,2,3]))⟩
theorem qNS:sQ.images=[1]:=by decide +kernel
theorem qHY {d e:DfaV}(h:d.letters=e.letters/\d.start=e.start/\d.final=e.final/\d.next=e.next):d=e:=by
 obtain⟨a,b,c,x⟩:=d;obtain⟨a',b',c',x'⟩:=e;obtain⟨h1,h2,h3,h4⟩:=h;simp only at h1 h2 h3 h4;rw[h1,h2,h3,h4]
theorem qPL:minD dQ 1=dQ:=qHY (by decide +kernel)
theorem qNY:qJ dQ 4 1=gsQ:=by decide +kernel
def tQ:List (List Int):=[[0,1,2,3],[1,2,3,3],[2,3,3,3],[3,3,3,3]]
theorem qLR:tabI sQ.tab=tQ:=by decide +kernel
theorem qPN:FinE gsQ 4 elQ prQ laQ riQ elQ.length:=qHS (by unfold IsT;decide) (by omega) (by decide) qPE (by unfold IsT;decide)
theorem qPM:GenI tQ [1] [1,2,3] where
 nd:=by decide
 lt:=by decide
 base:=by decide
 gen:=fun x hx=>by
  have g1:Gen tQ [1] 1:=.base 1 (by simp)
  have g2:Gen tQ [1] 2:=.mul 1 1 g1 g1
  have g3:Gen tQ [1] 3:=.mul 1 2 g1 g2
  simp only[List.mem_cons,List.not_mem_nil,or_false]at hx
  rcases hx with rfl|rfl|rfl
  ·exact g1
  ·exact g2
  ·exact g3
theorem qKV:pB tQ [1,2,3]:=by unfold pB;decide +kernel
theorem qMG:oC dQ sQ:=by
 refine⟨4,1,4,dQ,qOB,qPL.symm,qOB,by omega,?_⟩;rw[qNY];exact⟨elQ,prQ,laQ,riQ,[1,2,3],qPN,by decide,rfl,rfl,rfl,rfl,rfl,by rw[qLR,qNS];exact qPM,by rw[qLR];exact qKV,rfl⟩
theorem qPP:autI sQ.I=dQ:=qHY (by decide +kernel)
theorem qMD:qN sQ.I:=⟨by decide +kernel,sQ,by rw[qPP];exact qMG,rfl⟩
theorem qOE:jO sQ.I.tab=true:=by decide +kernel
theorem qPF:PowR sQ.I.tab ((imI sQ.I).getD 0 0) 4 3:=by unfold PowR;decide +kernel
theorem qLS {Ls js:List Nat}(h:PowsR sQ.I Ls js sQ.I.images.length):Ls=[4]/\js=[3]:=by
 have e1:sQ.I.images.length=1:=by decide +kernel
 rw[e1]at h;have h1:=h.pow 0 (by omega);obtain⟨h2,h3⟩:=h1.eq qPF;have l1:=h.l1;have l2:=h.l2
 match Ls,js,l1,l2,h2,h3 with
 | [a],[b],_,_,h2,h3=>simp at h2 h3;rw[h2,h3];exact⟨rfl,rfl⟩
def cQ:CntV:=⟨[3],[1],[false,false,false,true]⟩
theorem qPO {c:CntV}(h:qIQ sQ.I c):c=cQ:=by
 obtain⟨Ls,js,hp,h1,h2,h3,h4⟩:=h;obtain⟨rfl,rfl⟩:=qLS hp;obtain⟨ci,cp,ca⟩:=c;simp only at h1 h2 h3 h4;have e1:vK [3]=[3]:=by decide
 have e2:vK (perL [4] [3])=[1]:=by decide
 rw[e1]at h1;rw[e2]at h2;subst h1 h2;have e3:uE [3] [1] sQ.I.images.length=some 4:=by decide +kernel
 rw[e3]at h3;have e4:ca.length=4:=(Oj h3).symm;rw[e4]at h4;have e5:((List.range 4).map fun i=>sQ.I.accept.getD (valC sQ.I.tab (imI sQ.I) [4] sQ.I.images.length i 0) false)=[false,false,false,true]:=by decide +kernel
 rw[h4,e5];rfl
theorem qND:¬qNM sQ.I:=by
 rintro ⟨Ls,js,hp,h⟩;obtain⟨rfl,rfl⟩:=qLS hp;have e3:uE (vK [3]) (vK (perL [4] [3])) sQ.I.images.length=some 4:=by decide +kernel
 rw[e3]at h;exact absurd h (by simp)
theorem qHD:rL cQ ⟨#[97,97,97,97]⟩=true/\rL cQ ⟨#[97,97]⟩=false:=by decide +kernel
theorem oO {xs:List Bool}{k:Nat}(h:k<xs.length):xs.take (k+1)=xs.take k++[xs.getD k false]:=by
 rw[List.take_add_one];simp[List.getD,h]
theorem qFS (B C:Nat)(w:World)(va vb:Value)(xs ys:List Bool)(ha:Row B w va (bls xs))(hb:Row C w vb (bls ys)):Calls Try.prog 41 #[va,vb] w fun e w'=>e=.returned (.bool (decide (xs=ys)))/\∃m,w'=w.drewN m:=by
 have h2:=ha.len_le;rw[zZ]at h2;unfold maxLen at h2;have h1:=hb.len_le;rw[zZ]at h1;unfold maxLen at h1;obtain⟨aa,ac,rfl⟩:=ha.shape;obtain⟨ba,bc,rfl⟩:=hb.shape;rw[zZ]at ha hb⊢;rw[zZ];by_cases hl:xs.length=ys.length
 ·by_cases h0:xs.length=0
  ·have hx:xs=[]:=List.eq_nil_of_length_eq_zero h0
   have hy:ys=[]:=List.eq_nil_of_length_eq_zero (by omega);subst hx;subst hy;clear ha hb;go_enter Try.func41,Try.ntmps41;go_wp2
   go_loopg [13] 0 (fun g i wr=>i=.int .i64 0/\wr=w)
   case atStart=>exact⟨rfl,rfl⟩
   obtain⟨rfl,rfl⟩:=hrel;go_wp2;go_ret;exact⟨yT rfl,0,rfl⟩
  obtain⟨ab,ao,ac',e,_,_,_,h4⟩:=ha.some_ (by rw[zZ];omega);simp only[Value.slice.injEq]at e;obtain⟨rfl,-,-⟩:=e;obtain⟨bb,bo,bc',e,_,_,_,h3⟩:=hb.some_ (by rw[zZ];omega);simp only[Value.slice.injEq]at e;obtain⟨rfl,-,-⟩:=e;obtain⟨RA,RB,HL⟩:=K3 h4 h3 hl;clear ha hb h4 h3;rw[<-hl];clear hl;go_enter Try.func41,Try.ntmps41;go_wp2
  go_loopg [13] xs.length (fun g i wr=>∃k:Nat,g+k=xs.length/\i=.int .i64 k/\xs.take k=ys.take k/\∃m,wr=w.drewN m)
  case atStart=>exact⟨0,rfl,rfl,rfl,0,rfl⟩
  obtain⟨k,hg,rfl,h5,m,rfl⟩:=hrel;have HG:=Kh hg;have OK:=Kh h5;clear hg h5;by_cases hk:k<xs.length
  ·have h7:(k:Int)<xs.length:=by omega
   have ca:=RA.out.boolQ k hk;have cb:=RB.out.boolQ k (by have:=HL.out;omega);obtain⟨z,hz⟩:=Nm (xs.getD k false);obtain⟨u,hu⟩:=Nm (ys.getD k false);rw[<-hz]at ca;rw[<-hu]at cb;have HZ:=Kh hz;have HU:=Kh hu;clear hz hu;by_cases hzu:z=u
   ·have HN:Hid (xs.take (k+1)=ys.take (k+1)):=Kh (by rw[oO hk,oO (by have:=HL.out;omega),OK.out,<-HZ.out,<-HU.out,hzu])
    subst hzu;have e1:(z != z)=false:=by simp
    go_wp2
    go_quiet (fail)
    go_wp2;go_roundg (xs.length-(k+1))
    case measure=>have:=HG.out;omega
    exact⟨k+1,by omega,by go_num,HN.out,_,rfl⟩
   have HN:Hid (decide (xs=ys)=false):=Kh (by rw[decide_eq_false_iff_not];rintro rfl;exact hzu (by rw[HZ.out,HU.out]));cases z<;>cases u
   case false.false=>exact absurd rfl hzu
   case true.true=>exact absurd rfl hzu
   all_goals
    clear hzu;go_wp2
    go_quiet (fail)
    go_wp2;go_ret;exact⟨yT HN.out.symm,_,by rw[World.drewN_drewN]⟩
  have HY:Hid (decide (xs=ys)=true):=by
   have h6:k=xs.length:=by have:=HG.out;omega
   have:=OK.out;rw[List.take_of_length_le (by omega),List.take_of_length_le (by have:=HL.out;omega)]at this;exact Kh (by rw[decide_eq_true_eq];exact this)
  go_wp2;go_ret;exact⟨yT HY.out.symm,m,rfl⟩
 have e1:((xs.length:Int) != (ys.length:Int))=true:=by rw[bne_iff_ne];omega
 have HN:Hid (decide (xs=ys)=false):=Kh (by rw[decide_eq_false_iff_not];rintro rfl;exact hl rfl);clear ha hb;go_enter Try.func41,Try.ntmps41;go_wp2;go_ret;exact⟨yT HN.out.symm,0,rfl⟩
theorem qHZ (B C:Nat)(w:World)(va vb:Value)(a b:CntV)(ha:jR B w va a)(hb:jR C w vb b):Calls Try.prog 21 #[va,vb] w fun e w'=>e=.returned (.bool (decide (a.idx=b.idx) && decide (a.per=b.per) && decide (a.acc=b.acc)))/\w.grownBy w' none:=by
 obtain⟨a1,a2,a3,rfl,H4,H0,h9⟩:=ha;obtain⟨b1,b2,b3,rfl,h8,h7,h6⟩:=hb;obtain⟨w1,h0⟩:=Nm (w.alloc (.cells #[a1,a2,a3] 28));have g1:w.grownBy w1 none:=by rw[h0];exact Ga w _ none
 have n1:=heap_alloc_new w (.cells #[a1,a2,a3] 28);have h2:w1.heap.size=w.heap.size+1:=by rw[h0];simp
 obtain⟨w2,h1⟩:=Nm (w1.alloc (.cells #[b1,b2,b3] 28));have g2:w1.grownBy w2 none:=by rw[h1];exact Ga w1 _ none
 have n2:=heap_alloc_new w1 (.cells #[b1,b2,b3] 28);rw[<-h0]at n1;rw[<-h1,h2]at n2;obtain⟨P,hP⟩:=Nm w.heap.size;rw[<-hP]at n1 n2;obtain⟨p0,p1,p2⟩:=uM (zB n1 g2);obtain⟨q0,q1,q2⟩:=uM n2;have hg:=zC g1 g2;have H1:=Kh (fun(W:World) (h:w.grownBy W none)=>mD B C W a1 b1 a.idx b.idx (H4.kept h (by simp)) (h8.kept h (by simp)));have H2:=Kh (fun(W:World) (h:w.grownBy W none)=>mD B C W a2 b2 a.per b.per (H0.kept h (by simp)) (h7.kept h (by simp)));have H3:=Kh (fun(W:World) (h:w.grownBy W none)=>qFS B C W a3 b3 a.acc b.acc (h9.kept h (by simp)) (h6.kept h (by simp)));obtain⟨d1,h5⟩:=Nm (decide (a.idx=b.idx));obtain⟨d2,h4⟩:=Nm (decide (a.per=b.per));obtain⟨d3,h3⟩:=Nm (decide (a.acc=b.acc));rw[<-h5]at H1⊢;rw[<-h4]at H2⊢;rw[<-h3]at H3⊢;obtain⟨HG,H6,H5,HP⟩:=K4 hg h0 h1 hP;clear H4 H0 h9 h8 h7 h6 h0 h1 g1 g2 n1 n2 h2 hP hg h5 h4 h3;go_enter Try.func21,Try.ntmps21;go_upto_region 1 with fail;rw[<-H6.out,<-HP.out,<-H5.out];go_wp2_with fail;refine(H1.out w2 HG.out).mono ?_;rintro e w3 ⟨rfl,m3,rfl⟩;have HD:Hid (∀q,w.grownBy (w2.drewN q) none):=Kh (fun q=>zC HG.out (zT w2 q none));cases d1 with
 | false =>
  go_wp2;go_ret;exact⟨rfl,HD.out _⟩
 | true =>
  go_wp2_with fail;refine(H2.out _ (HD.out _)).mono ?_;rintro e w4 ⟨rfl,m4,rfl⟩;cases d2 with
  | false =>
   go_wp2;go_ret;exact⟨rfl,HD.out _⟩
  | true =>
   go_wp2_with fail;refine(H3.out _ (HD.out _)).mono ?_;rintro e w5 ⟨rfl,m5,rfl⟩;cases d3 with
   | false =>
    go_wp2;go_ret;exact⟨rfl,HD.out _⟩
   | true =>
    go_wp2;go_ret;exact⟨rfl,HD.out _⟩
theorem mK (B:Nat)(w:World)(v:Value)(c:CntV)(s:ByteArray)(h:jR B w v c)(hs:s.size<=maxLen):Calls Try.prog 10 #[v,.string s] w fun e w'=>e=.returned (.bool (rL c s))/\w.grownBy w' none:=by
 obtain⟨vi,vp,va,rfl,hi,hp,ha⟩:=id h;obtain⟨iA,iC,rfl⟩:=hi.shape;obtain⟨pA,pC,rfl⟩:=hp.shape;obtain⟨aA,aC,rfl⟩:=ha.shape;obtain⟨n,hn⟩:=Nm ((ints c.idx).length);obtain⟨pn,h6⟩:=Nm ((ints c.per).length);obtain⟨an,h9⟩:=Nm ((bls c.acc).length);rw[<-hn]at hi h;rw[<-h6]at hp h;rw[<-h9]at ha h;rw[<-hn,<-h6,<-h9];rw[zO]at hn h6;rw[zZ]at h9;obtain⟨w1,H0⟩:=Nm (w.alloc (.cells #[.slice iA n iC,.slice pA pn pC,.slice aA an aC] 28));have H8:w.grownBy w1 none:=by rw[H0];exact Ga w _ none
 have H2:=heap_alloc_new w (.cells #[.slice iA n iC,.slice pA pn pC,.slice aA an aC] 28);obtain⟨P,hP⟩:=Nm w.heap.size;rw[<-H0,<-hP]at H2;obtain⟨q0,q1,q2⟩:=uM H2;obtain⟨R,hR⟩:=Nm (rL c s);rw[<-hR];have b5:Hid (cntE c≠0->R=false):=Kh (fun h=>by rw[hR];exact qHF h);have b4:Hid (xV s (n:Int)=false->R=false):=Kh (fun h=>by rw[hR];exact qDZ (by rw[<-hn];exact h));have H5:Hid (cntE c=0->xV s (n:Int)=true->R=c.acc.getD (atTo c (vN n (yS s)) n) false):=Kh (fun h h2=>by rw[hR,hn];exact qHE h (by rw[<-hn];exact h2));have HV:=Kh (qEL B w1 _ c (h.kept H8));have HI:Hid (∀W:World,w.grownBy W none->Row B W (.slice iA n iC) (ints c.idx)):=Kh (fun W hg=>hi.kept hg (by simp));have HP:Hid (∀W:World,w.grownBy W none->Row B W (.slice pA pn pC) (ints c.per)):=Kh (fun W hg=>hp.kept hg (by simp));have HA:Hid (∀W:World,w.grownBy W none->Row B W (.slice aA an aC) (bls c.acc)):=Kh (fun W hg=>ha.kept hg (by simp));obtain⟨i0,d2,g1,g5,HN,g4⟩:=K6 H8 H2 H0 hP hn h6;have b6:=Kh h9;obtain⟨E,hE⟩:=Nm (cntE c);rw[<-hE]at HV b5 H5;have HE:=Kh hE;clear h hi hp ha hn h6 h9 H8 H2 H0 hP hR hE;go_enter Try.func10,Try.ntmps10;go_upto_region 1 with fail;rw[<-g1.out,<-g5.out];go_wp2_with fail;refine HV.out.mono ?_;rintro e w2 ⟨rfl,H1⟩;have h7:=Kh (zC i0.out H1);obtain⟨q0,q1,q2⟩:=uM (zB d2.out H1);have i4:=Kh (zB d2.out H1);clear H1 HV;by_cases hE0:E=0
 case neg =>
  have e1:(E != 0)=true:=by rw[bne_iff_ne];exact hE0
  have HF:=Kh (b5.out hE0);clear hE0;go_wp2;go_ret;exact⟨yT HF.out.symm,h7.out⟩
 have e1:(E != 0)=false:=by rw[bne_eq_false_iff_eq];exact hE0
 have h1:Hid (CntOk c):=Kh (qOF.1 (by rw[<-HE.out];exact hE0));have i3:=Kh hE0;clear hE0;have b3:=Kh (eU s (n:Int) w2 hs);obtain⟨wv,H7⟩:=Nm (xV s (n:Int));rw[<-H7]at b3 b4 H5;have a5:=Kh H7;clear H7;go_wp2_with fail;refine b3.out.mono ?_;rintro e w3 ⟨rfl,rfl⟩;clear b3;cases wv with
 | false =>
  have HF:=Kh (b4.out rfl);go_wp2;go_ret;exact⟨yT HF.out.symm,h7.out⟩
 | true =>
  have d0:=Kh (bD a5.out.symm);have g3:=Kh (H5.out i3.out rfl);have e5:=d0.out.2.2;have c3:1<=n:=by rw[HN.out];exact h1.out.k1
  have j0:n<=6:=by rw[HN.out];exact h1.out.k6
  clear b5 b4 H5;obtain⟨ib,io,ic,ei,_,i1,i2,ir⟩:=(HI.out _ h7.out).some_ (by rw[zO,<-HN.out];exact c3);obtain⟨pb,po,pc,ep,_,p1,p2,pr⟩:=(HP.out _ h7.out).some_ (by rw[zO,h1.out.pl,<-HN.out];exact c3)
  have c7:1<=c.acc.length:=by
   have:=qLC h1.out.pos [] _ _ (Nat.le_refl _) h1.out.size;omega
  obtain⟨ab,ao,ac,ea,_,a1,a2,ar⟩:=(HA.out _ h7.out).some_ (by rw[zZ];exact c7);simp only[Value.slice.injEq]at ei ep ea;obtain⟨rfl,d8,rfl⟩:=ei;obtain⟨rfl,d7,rfl⟩:=ep;obtain⟨rfl,d6,rfl⟩:=ea;rw[zO,<-HN.out]at i1;rw[zO,h1.out.pl,<-HN.out]at p1;rw[zZ,<-b6.out]at a1;have h6:n=pn:=by rw[g4.out,h1.out.pl,HN.out]
  unfold maxLen at i2 p2 a2;obtain⟨IR,PR,AR⟩:=K3 ir pr ar;subst h6;clear ir pr ar d8 d7 d6 c7;obtain⟨wo,rfl⟩:=Nm (w2:World);go_upto_region 4 with (first|(at_make;refine qV rfl _ _ _ rfl yI rfl _ _ _ _ n rfl rfl rfl rfl ?b1 ?b2 ?_;(case b1=>omega);(case b2=>(unfold maxLen;omega));intro w4 H4 c4 d5)|fail);rw[<-yQ,<-qEM]at H4;obtain⟨g,hg⟩:=Nm wo.heap.size;rw[<-hg]at H4⊢;have g8:Hid (wo.heap.size<=g):=Kh (by rw[hg];exact Nat.le_refl _);have d4:Hid (Arr w4 g 3 (nats (vN n ((yS s).take 0)))):=Kh H4;have g9:=Kh c4;clear H4 c4 d5 hg q0 q1 q2;go_wp2
  go_loopg [6,27] s.size (fun gh a6 a27 wr=>∃j:Nat,gh+j=s.size/\a27=.int .i64 j/\Arr wr g 3 (nats (vN n ((yS s).take j)))/\wo.grownBy wr none)
  case atStart=>exact⟨0,rfl,rfl,d4.out,g9.out⟩
  clear d4;obtain⟨j,h8,rfl,h0,h3⟩:=hrel;obtain⟨h5,d3,g7⟩:=K3 h8 h0 h3;clear h8;by_cases hj:j<s.size
  ·have e8:(j:Int)<s.size:=by omega
   obtain⟨b0,a0,j3,i6,i9,a3,c2⟩:=qBQ d0.out.2.1 hj;have ca:=h0.nat a0 (by rw[rU];exact a3);have fa:=h0.frozen a0;rw[eP a3]at ca;have f7:((yS s).take j).count a0<=2048:=Nat.le_trans List.count_le_length (by rw[List.length_take];omega);have f8:(a0:Int)<n:=(by omega);have H6:=Kh (h0.nat_set a0 (by rw[rU];exact a3) (((yS s).take j).count a0+1));rw[qBM,show (yS s).take j++[a0]=(yS s).take (j+1) by rw[yF (d:=0) (by rw[tK];exact hj),c2]]at H6;obtain⟨x,hx⟩:=Nm (((yS s).take j).count a0);rw[<-hx]at ca f7 H6;have j2:g<wr.heap.size:=h0.lt;clear h0 c2 hx h3;go_wp2;go_roundg (s.size-(j+1))
   case measure=>have:=h5.out;omega
   refine⟨j+1,by have:=h5.out;omega,by go_num,?_,?_⟩
   ·first|exact H6.out|(have:=H6.out;simpa using this)
   exact zC g7.out (zG wr ⟨g,a0,none⟩ _) (fun q e=>by have e:g=q:=Oj e;rw[<-e];exact g8.out)
  have e8:¬(j:Int)<s.size:=by omega
  have i5:Hid (Arr wr g 3 (nats (vN n (yS s)))):=Kh (by
   rw[<-List.take_of_length_le (l:=yS s) (i:=j) (by rw[tK];omega)];exact d3.out)
  have g6:=Kh (zC h7.out h3);have IRX:=Kh (IR.out.kept h3 (by simp));have PRX:=Kh (PR.out.kept h3 (by simp));have ARX:=Kh (AR.out.kept h3 (by simp));obtain⟨q0,q1,q2⟩:=uM (zB i4.out h3);clear h0 h3 d3;obtain⟨wx,rfl⟩:=Nm (wr:World);go_wp2
  go_loopg [7,8,9,42] n (fun gh a7 a8 a9 a42 wr=>∃a q:Nat,gh+a=n/\a42=.int .i64 a/\a7=.int .i64 ((atTo c (vN n (yS s)) a:Nat):Int)/\wr=wx.drewN q)
  case atStart=>exact⟨0,0,rfl,rfl,rfl,rfl⟩
  obtain⟨a,q,h8,rfl,rfl,rfl⟩:=hrel;have h5:=Kh h8;clear h8;by_cases haN:a<n
  ·have f9:(a:Int)<n:=by omega
   have H3:a<c.idx.length:=(by rw[<-HN.out];exact haN);obtain⟨i,p,ei,ep,j1,e6,i7⟩:=qPJ h1.out H3;have ci:=IRX.out.int a H3;have cp:=PRX.out.int a (by rw[h1.out.pl];exact H3);rw[ei]at ci;rw[ep]at cp;have ca:=i5.out.nat a (by rw[rU];exact haN);obtain⟨N,a4⟩:=Nm ((vN n (yS s)).getD a 0)
   have j4:N<=2048:=by
    rw[a4,eP haN];exact Nat.le_trans List.count_le_length (by rw[tK];exact e5)
   have h4:=qNG (ns:=vN n (yS s)) ei ep;have hK:=qPQ h1.out (vN n (yS s)) (a:=a) (by omega);rw[<-a4]at ca h4;obtain⟨K,c8⟩:=Nm (atTo c (vN n (yS s)) a);rw[<-c8]at hK h4⊢;obtain⟨r,hr⟩:=Nm (i+p);rw[<-hr]at h4;have c1:r<=4000:=by omega
   obtain⟨x,hx⟩:=Nm (asN N i p);rw[<-hx]at h4;have b9:x<=4000:=by have:=qLV (n:=N) (i:=i) e6;omega
   obtain⟨e1,e2,e3⟩:=iD hK c1;clear e2;obtain⟨m,hm⟩:=Nm (K*r);rw[<-hm]at e1 e3 h4;obtain⟨y,hy⟩:=Nm (m+x);rw[<-hy]at h4;obtain⟨d1,c9,g0,j5⟩:=K4 h4 hx b9 e3;have c0:(i:Int)+(p:Int)=(r:Int):=by omega
   have b7:(m:Int)+(x:Int)=(y:Int):=by omega
   have f1:IntKind.i64.wrap ((i:Int)+(p:Int))=(r:Int):=by rw[c0];exact vD (by omega)
   have f2:IntKind.i64.wrap ((m:Int)+(x:Int))=(y:Int):=by rw[b7];exact vD (by omega)
   clear a4 c8 hr hx hm hy h4 c0 b7 e3 hK c1 b9 ei ep H3;by_cases hlt:N<i
   ·have e7:(N:Int)<(i:Int):=by omega
    have e9:¬(i:Int)<=(N:Int):=by omega
    have e0:x=N:=by rw[c9.out,asN,if_pos hlt]
    subst e0;clear hlt;go_wp2
    go_quiet (fail)
    clear e1 f1 f2;go_wp2;go_roundg (n-(a+1))
    case measure=>have:=h5.out;omega
    exact⟨a+1,_,by have:=h5.out;omega,by go_num,by rw[d1.out],by first|rfl|exact World.drewN_drewN _ _ _⟩
   obtain⟨d,hd⟩:=Nm (N-i);obtain⟨t,ht⟩:=Nm (d % p);have d9:x=i+t:=by rw[c9.out,asN,if_neg hlt,ht,hd]
   have c6:(N:Int)-(i:Int)=(d:Int):=by omega
   have e4:t<p:=(by rw[ht];exact Nat.mod_lt _ (by omega));have b8:(i:Int)+(t:Int)=(x:Int):=by omega
   have f3:IntKind.i64.wrap ((N:Int)-(i:Int))=(d:Int):=by rw[c6];exact vD (by omega)
   have f4:(d:Int).tmod (p:Int)=(t:Int):=by rw[ht];exact Int.ofNat_tmod d p
   have f5:IntKind.i64.wrap ((i:Int)+(t:Int))=(x:Int):=by rw[b8];exact vD (by have:=g0.out;omega)
   have f6:IntKind.i64.wrap (t:Int)=(t:Int):=vD (by omega);have i8:¬(p:Int)=0:=by omega
   have e9:(i:Int)<=(N:Int):=by omega
   clear hd ht d9 c6 e4 b8 hlt;go_wp2
   go_quiet (fail)
   go_wp2
   go_quiet (fail)
   clear e1 f1 f2 f3 f4 f5 f6;go_wp2;go_roundg (n-(a+1))
   case measure=>have:=h5.out;omega
   exact⟨a+1,_,by have:=h5.out;omega,by go_num,by rw[d1.out],by first|rfl|exact World.drewN_drewN _ _ _⟩
  have H9:a=n:=by have:=h5.out;omega
  have f9:¬(a:Int)<n:=by omega
  have c5:atTo c (vN n (yS s)) a<an:=by
   rw[H9,b6.out];have hx:=h1.out.size;rw[<-HN.out]at hx;exact qLC h1.out.pos _ _ _ (by rw[HN.out];exact Nat.le_refl _) hx
  have g2:Hid (R=c.acc.getD (atTo c (vN n (yS s)) a) false):=Kh (by rw[H9];exact g3.out);have cz:=ARX.out.boolQ (atTo c (vN n (yS s)) a) (by rw[<-b6.out];exact c5);rw[<-g2.out]at cz;obtain⟨z,hz⟩:=Nm (atTo c (vN n (yS s)) a);rw[<-hz]at cz c5⊢;have f0:(z:Int)<an:=(by omega);clear hz H9;go_wp2;go_ret;exact⟨rfl,zC g6.out (zT wx _ none)⟩
open Go.Maps
section
variable {I:SynI} {w6 w:World} {o k pg:Nat} {hsP:List Value} {Ls js:List Nat} {sI:Option Addr} {cI:Nat} {sP:Option Addr} {cP:Nat} {ag c:Nat} {xs:List Bool}
theorem CoS.begin {w':World}(h:CoS I w6 o k pg hsP Ls js sI cI sP cP (.slice none 0 0) [] w)(hg:w.grownBy w' none)(ho:w'.ownsRow w.heap.size 4 1 (.slice (some ⟨ag,0,none⟩) c c) c (bls xs)):CoS I w6 o k pg hsP Ls js sI cI sP cP (.slice (some ⟨ag,0,none⟩) c c) [⟨w6.heap.size,4,.slice (some ⟨ag,0,none⟩) c c,c,bls xs,1⟩] (w'.setCell ⟨o,2,none⟩ (.slice (some ⟨ag,0,none⟩) c c)):=by
 obtain⟨X,hB,hT⟩:=h;have hA:=hB.add hg (e:=4) (sz:=1) (n:=c) (v:=.slice (some ⟨ag,0,none⟩) c c) (xs:=bls xs) ho (by decide);have hS:=hA.set 2 (.slice (some ⟨ag,0,none⟩) c c);exact⟨X,hS.rebase,hT.kept hS.kept hS.wk⟩
theorem CoS.putM (h:CoS I w6 o k pg hsP Ls js sI cI sP cP (.slice (some ⟨ag,0,none⟩) c c) [⟨w6.heap.size,4,.slice (some ⟨ag,0,none⟩) c c,c,bls xs,1⟩] w){i:Nat}(hi:i<c)(u:Bool):CoS I w6 o k pg hsP Ls js sI cI sP cP (.slice (some ⟨ag,0,none⟩) c c) [⟨w6.heap.size,4,.slice (some ⟨ag,0,none⟩) c c,c,bls (xs.set i u),1⟩] (w.setCell ⟨ag,i,none⟩ (.bool u)):=by
 obtain⟨X,hB,hT⟩:=h;have hP:=hB.put (j:=3) rfl hi (.bool u);rw[show (bls xs).set i (.bool u)=bls (xs.set i u) by simp[bls,List.map_set]]at hP;exact⟨X,hP.rebase,hT.kept hP.kept hP.wk⟩
theorem CoS.arrM (h:CoS I w6 o k pg hsP Ls js sI cI sP cP (.slice (some ⟨ag,0,none⟩) c c) [⟨w6.heap.size,4,.slice (some ⟨ag,0,none⟩) c c,c,bls xs,1⟩] w):Arr w ag 4 (bls xs)/\xs.length=c:=by
 obtain⟨X,hB,hT⟩:=h;have h1:=hB.own (r:=⟨w6.heap.size,4,.slice (some ⟨ag,0,none⟩) c c,c,bls xs,1⟩) (by simp);exact⟨Arr.of_owns h1,by have:=h1.1;simpa [bls] using this⟩
theorem CoS.cntT (h:CoS I w6 o k pg hsP Ls js sI cI sP cP (.slice (some ⟨ag,0,none⟩) c c) [⟨w6.heap.size,4,.slice (some ⟨ag,0,none⟩) c c,c,bls xs,1⟩] w):RowT w.heap.size 3 w (.slice sI Ls.length cI) (nats js)/\RowT w.heap.size 3 w (.slice sP Ls.length cP) (nats (perL Ls js))/\RowT w.heap.size 4 w (.slice (some ⟨ag,0,none⟩) c c) (bls xs):=by
 obtain⟨_,_,_,h2,h3⟩:=h.cells;obtain⟨X,hB,hT⟩:=h;have h1:=hB.own (r:=⟨w6.heap.size,4,.slice (some ⟨ag,0,none⟩) c c,c,bls xs,1⟩) (by simp);exact⟨RowT.of_owns h2,RowT.of_owns h3,RowT.of_owns h1⟩
end
theorem jD (I:SynI)(Ls:List Nat)(k c:Nat):(lQ I Ls k c c).length=c:=by simp[lQ]
theorem qIQ.make {I:SynI}{Ls js:List Nat}{k c:Nat}(hk:k=I.images.length)(h:PowsR I Ls js k)(hc:uE (vK js) (vK (perL Ls js)) k=some c):qIQ I ⟨vK js,vK (perL Ls js),lQ I Ls k c c⟩:=by
 subst hk;exact⟨Ls,js,h,rfl,rfl,by rw[hc,jD],by simp only[jD];exact qHH _ _ _ _⟩
theorem qNB {Q:Exit->Act->World->Prop}{v0 v2 v3 v4 v6 v7 v8 v9 n7 n8 n9 m0 m1 m2 m3 m4 m5 m6 m7 m8 m9 l0 l1 l2 l3 l4 l5 l6 l7 l8 l9 k0 k1 k2 k3 k4 k5 k6 k7 k8 k9 j0 j1 j2 j3 j4 j5 j6 j7 j8 j9 i0 i1 i2 i3 i4 i5 i6 i7 i8 i9 g0 g1 g2 g3 g4 g5 g6 g7 g8 g9 f0 f1 f2 f3 f4 f5 f6 f7 f8 e0 e1 e2 e3 e4 e5 e6 e7 e8 e9 d0 d1 d2 d3 d4 d5 c9 b0 b1 b2 b3 b4 b5 b6 b7 b8 b9 a0 a1 a2 a3 a4 a5 a6 a7 d7 d8 d9 c2 c3 c4 c5 c6 c7 a8 a9:Value}{I:SynI}{w6 w:World}{o k pg:Nat}{n6:List Value}{Ls js:List Nat}{sI:Option Addr}{cI:Nat}{sP:Option Addr}{cP:Nat}{ag c:Nat}{xs:List Bool}{P i v ab ao an aC:Nat}{b:Bool}(h:CoS I w6 o k pg n6 Ls js sI cI sP cP (.slice (some ⟨ag,0,none⟩) c c) [⟨w6.heap.size,4,.slice (some ⟨ag,0,none⟩) c c,c,bls xs,1⟩] w)(hi:i<c)(n5:c<=2000)(hv:v<an)(n4:an<=400)(d6:an<=aC/\aC<=maxLen)(c0:w.cell? ⟨P,4,none⟩=some (.slice (some ⟨ab,ao,none⟩) an aC))(c1:w.cell? ⟨ab,ao+v,none⟩=some (.bool b))(c8:∀(z119 z120 z121 z122 z123 z124 z125 z126 z127:Value) (w':World),CoS I w6 o k pg n6 Ls js sI cI sP cP (.slice (some ⟨ag,0,none⟩) c c) [⟨w6.heap.size,4,.slice (some ⟨ag,0,none⟩) c c,c,bls (xs.set i b),1⟩] w'->Q .normal ⟨(v0::(Value.pointer (some ⟨P,0,none⟩))::v2::v3::v4::(Value.pointer (some ⟨o,0,none⟩))::v6::v7::v8::v9::n7::n8::n9::(Value.int .i64 (i:Int))::m0::(Value.int .i64 (v:Int))::m1::m2::m3::m4::m5::m6::m7::m8::m9::l0::l1::l2::l3::l4::l5::l6::l7::l8::l9::k0::k1::k2::k3::k4::k5::k6::k7::k8::k9::j0::j1::j2::j3::j4::j5::j6::j7::j8::j9::i0::i1::i2::i3::i4::i5::i6::i7::i8::i9::g0::g1::g2::g3::g4::g5::g6::g7::g8::g9::f0::f1::f2::f3::f4::f5::f6::f7::f8::e0::e1::e2::e3::e4::e5::e6::e7::e8::e9::d0::d1::d2::d3::d4::d5::c9::b0::b1::b2::b3::b4::b5::b6::b7::b8::b9::a0::a1::a2::a3::a4::a5::a6::a7::z119::z120::z121::z122::z123::z124::z125::z126::z127::a8::a9::[]).toArray,[]⟩ w'):Code.wp Try.prog (reg Try.f16 29) Q ⟨(v0::(Value.pointer (some ⟨P,0,none⟩))::v2::v3::v4::(Value.pointer (some ⟨o,0,none⟩))::v6::v7::v8::v9::n7::n8::n9::(Value.int .i64 (i:Int))::m0::(Value.int .i64 (v:Int))::m1::m2::m3::m4::m5::m6::m7::m8::m9::l0::l1::l2::l3::l4::l5::l6::l7::l8::l9::k0::k1::k2::k3::k4::k5::k6::k7::k8::k9::j0::j1::j2::j3::j4::j5::j6::j7::j8::j9::i0::i1::i2::i3::i4::i5::i6::i7::i8::i9::g0::g1::g2::g3::g4::g5::g6::g7::g8::g9::f0::f1::f2::f3::f4::f5::f6::f7::f8::e0::e1::e2::e3::e4::e5::e6::e7::e8::e9::d0::d1::d2::d3::d4::d5::c9::b0::b1::b2::b3::b4::b5::b6::b7::b8::b9::a0::a1::a2::a3::a4::a5::a6::a7::d7::d8::d9::c2::c3::c4::c5::c6::c7::a8::a9::[]).toArray,[]⟩ w:=by
 obtain⟨h8,_,_,_,_⟩:=h.cells;obtain⟨h4,h5⟩:=h.arrM
 have h0:∀W:World,w.grownBy W none->W.cell? ⟨o,2,none⟩=some (.slice (some ⟨ag,0,none⟩) c c)/\W.cell? ⟨P,4,none⟩=some (.slice (some ⟨ab,ao,none⟩) an aC)/\W.cell? ⟨ab,ao+v,none⟩=some (.bool b):=fun W hg=>by
  have q2:=zF (zB h8 hg) 2;simp only[List.getElem_toArray,List.getElem_cons_zero,List.getElem_cons_succ]at q2;exact⟨q2,zJ c0 hg,zJ c1 hg⟩
 have h1:∀W:World,w.grownBy W none->∃u,W.cell? ⟨ag,i,none⟩=some u:=fun W hg=>⟨_,(h4.kept hg (by simp)).cell i (by rw[zZ,h5];exact hi)⟩;have h7:∀W:World,w.grownBy W none->W.frozen? ⟨ag,i,none⟩=false:=fun W hg=>(h4.kept hg (by simp)).frozen i;obtain⟨H,H3,H2⟩:=K3 h h1 h7;have H6:(i:Int)<c:=by omega
 have H5:(v:Int)<an:=by omega
 have H0:=d6.1;have h9:aC<=9223372036854775807:=by have:=d6.2;unfold maxLen at this;omega
 clear h h8 h4 h1 h7 c0 c1 d6 h5;have H4:Hid (∀W:World,w.grownBy W none->W.cell? ⟨o,2,none⟩=some (.slice (some ⟨ag,0,none⟩) c c)/\W.cell? ⟨P,4,none⟩=some (.slice (some ⟨ab,ao,none⟩) an aC)/\W.cell? ⟨ab,ao+v,none⟩=some (.bool b)):=Kh (fun W hg=>h0 W hg);clear h0
 conv=>arg 2;whnf
 obtain⟨w7,h3⟩:=Nm w.drew;have h6:w.grownBy w7 none:=by rw[h3];exact zY w none
 have H1:=Kh h3;have h2:=Kh h6;clear h3 h6;refine wp_region_noPanic ?_;refine yK (G:=xU 9 (fun _=>True) (fun W=>W.cell? ⟨o,2,none⟩=some (.slice (some ⟨ag,0,none⟩) c c)/\W.cell? ⟨P,4,none⟩=some (.slice (some ⟨ab,ao,none⟩) an aC)/\W.cell? ⟨ab,ao+v,none⟩=some (.bool b))) (by kernel_rfl) ?_;rw[<-H1.out];have C:=Kh (H4.out w7 h2.out);refine zL 0 ⟨trivial,fun _=>C.out⟩ ?_;refine yV 1 ⟨trivial,fun _=>C.out⟩ ?_;refine zL 2 ⟨trivial,fun _=>C.out⟩ ?_;refine zL 3 ⟨trivial,fun _=>C.out⟩ ?_;refine yV 4 ⟨trivial,fun _=>C.out⟩ ?_;refine zL 5 ⟨trivial,fun _=>C.out⟩ ?_;refine zL 6 ⟨trivial,fun _=>C.out⟩ ?_;refine yV 7 ⟨trivial,fun _=>C.out⟩ ?_;refine zL 8 ⟨trivial,fun _=>C.out⟩ ?_;obtain⟨u9,q9⟩:=H3.out w7 h2.out;have f9:=H2.out w7 h2.out;refine oneG (i:=9) (by kernel_rfl) rfl (fun K hK=>?_);go_simp;refine hK.out _ _ ⟨trivial,fun h=>by simp at h⟩ ?_;clear hK K q9 f9
 try simp only[Act.put,sPd,sPe,sPf,sPa,sPb,sPc]
 refine tY (by kernel_rfl) ?_ _;refine NoPanic.normal ?_;exact c8 _ _ _ _ _ _ _ _ _  _ ((H.out.grow h2.out).putM hi _)
theorem gP {w:World}{p e:Nat}{z0 z1 z2:Value}(h:w.heap[p]?=some (.cells #[z0,z1,z2] e (0,0)))(x0 x1 x2:Value):(((w.setCell ⟨p,0,none⟩ x0).setCell ⟨p,1,none⟩ x1).setCell ⟨p,2,none⟩ x2).heap[p]?=some (.cells #[x0,x1,x2] e (0,0))/\w.grownBy (((w.setCell ⟨p,0,none⟩ x0).setCell ⟨p,1,none⟩ x1).setCell ⟨p,2,none⟩ x2) (some p):=by
 have s0:=heap_setCell_same w p 0 _ _ x0 h;have s1:=heap_setCell_same _ p 1 _ _ x1 s0;have s2:=heap_setCell_same _ p 2 _ _ x2 s1;refine⟨by rw[s2];simp,?_⟩;have t:=fun(W:World) (i:Nat) (u:Value)=>zG W ⟨p,i,none⟩ u;exact zH (zH (t _ 0 _) (t _ 1 _)) (t _ 2 _)
theorem qIB (B:Nat)(w:World)(v:Value)(I:SynI)(a6:B<=w.heap.size)(h:cX B w v I):Calls Try.prog 16 #[v] w (qLZ I w):=by
 obtain⟨vT,vW,vI,vA,vP,rfl,hT,hW,hI,hA,hP⟩:=id h;obtain⟨tA,tC,rfl⟩:=hT.shape;obtain⟨wA,wC,rfl⟩:=hW.shape;obtain⟨iA,iC,rfl⟩:=hI.shape;obtain⟨aA,aC,rfl⟩:=hA.shape;obtain⟨pA,pC,rfl⟩:=hP.shape;obtain⟨n,hn⟩:=Nm I.tab.length;obtain⟨wn,n0⟩:=Nm ((sH I.words).length);obtain⟨k,hk⟩:=Nm I.images.length;obtain⟨an,i8⟩:=Nm I.accept.length;obtain⟨pn,c5⟩:=Nm ((bls I.plus).length);rw[<-hn,<-n0,zO,<-hk,zZ,<-i8,<-c5]at h⊢;rw[<-hn]at hT;rw[zO,<-hk]at hI;rw[zZ,<-i8]at hA;obtain⟨w1,c3⟩:=Nm (w.alloc (.cells #[.int .i64 I.k,.slice tA n tC,.slice wA wn wC,.slice iA k iC,.slice aA an aC,.slice pA pn pC] 44));have g1:w.grownBy w1 none:=by rw[c3];exact Ga w _ none
 have n1:=heap_alloc_new w (.cells #[.int .i64 I.k,.slice tA n tC,.slice wA wn wC,.slice iA k iC,.slice aA an aC,.slice pA pn pC] 44);have g9:w1.heap.size=w.heap.size+1:=by rw[c3];simp
 rw[<-c3]at n1;obtain⟨w2,i3⟩:=Nm (w1.alloc (.cells #[.slice none 0 0,.slice none 0 0,.slice none 0 0] 28));have g2:w1.grownBy w2 none:=by rw[i3];exact Ga w1 _ none
 have n2:=heap_alloc_new w1 (.cells #[.slice none 0 0,.slice none 0 0,.slice none 0 0] 28);rw[<-i3,g9]at n2;obtain⟨P,l5⟩:=Nm w.heap.size;rw[<-l5]at n1 n2;have k6:=zB n1 g2;have i5:=zC g1 g2;obtain⟨ik,o4⟩:=Nm I.k;rw[<-o4]at c3 k6 h⊢;have t7:=Kh (h.kept i5);have HT:Hid (∀W:World,w.grownBy W none->Mat B W (.slice tA n tC) I.tab):=Kh (fun W hg=>hT.kept hg (by simp));have HI:Hid (∀W:World,w.grownBy W none->Row B W (.slice iA k iC) (ints I.images)):=Kh (fun W hg=>hI.kept hg (by simp));have HA:Hid (∀W:World,w.grownBy W none->Row B W (.slice aA an aC) (bls I.accept)):=Kh (fun W hg=>hA.kept hg (by simp));obtain⟨q7,c2,HG,s8,s7,f3⟩:=K6 k6 n2 i5 c3 i3 l5;obtain⟨HN,HK,m8⟩:=K3 hn hk i8;have HV:=Kh (qDE B w2 _ I (Nat.le_trans a6 i5.size) t7.out);clear h hT hW hI hA hP hn n0 hk i8 c5 o4 g1 n1 g9 g2 n2 k6 i5 c3 i3 l5;go_enter Try.func16,Try.ntmps16;go_upto_region 1 with fail;rw[<-s8.out,<-f3.out,<-s7.out];obtain⟨q0,q1,q2,q3,q4,q5⟩:=zV q7.out;go_wp2_with fail;refine HV.out.mono ?_;rintro e w3 ⟨⟨z,rfl,hz⟩,i7⟩;have j0:=Kh (zC HG.out i7);have g8:=Kh (zB q7.out i7);have h6:=Kh (zB c2.out i7);obtain⟨p0,p1,p2⟩:=uM h6.out;have f0:=zA h6.out 0;have f1:=zA h6.out 1;have f2:=zA h6.out 2;clear i7 HV q0 q1 q2 q3 q4 q5;rcases hz with ⟨rfl,h3⟩|⟨rfl,hnv⟩
 case inr =>
  have t5:=Kh hnv;clear hnv;go_wp2;refine bodyPost_ret (v:=.tuple #[.agg #[.slice none 0 0,.slice none 0 0,.slice none 0 0],.int .i64 8]) (by simp[results,Try.results16,go_sem,p0,p1,p2]) rfl ?_;obtain⟨j5,H2⟩:=gP h6.out (.slice none 0 0) (.slice none 0 0) (.slice none 0 0);exact⟨.inl ⟨8,rfl,.inl ⟨rfl,t5.out⟩⟩,zC j0.out H2 (fun j e=>by have e:P+1=j:=Oj e;have:=f3.out;omega)⟩
 have b9:=Kh h3;have b0:=Kh h3.tab;have h2:=Kh (mC h3.1);clear h3;obtain⟨q0,q1,q2,q3,q4,q5⟩:=zV g8.out;have m3:=Kh (qKQ B w3 _ I.tab (Nat.le_trans a6 j0.out.size) (HT.out _ j0.out) b0.out.1 b0.out.2);obtain⟨cb,k3⟩:=Nm (jO I.tab);rw[<-k3]at m3;have c0:=Kh k3;clear k3;go_wp2_with fail;refine m3.out.mono ?_;rintro e w4 ⟨rfl,i6⟩;have f5:=Kh (zC j0.out i6);have g7:=Kh (zB g8.out i6);have h5:=Kh (zB h6.out i6);clear i6 m3 q0 q1 q2 q3 q4 q5 p0 p1 p2 f0 f1 f2;obtain⟨p0,p1,p2⟩:=uM h5.out;have f0:=zA h5.out 0;have f1:=zA h5.out 1;have f2:=zA h5.out 2;cases cb with
 | false =>
  go_wp2;refine bodyPost_ret (v:=.tuple #[.agg #[.slice none 0 0,.slice none 0 0,.slice none 0 0],.int .i64 20]) (by simp[results,Try.results16,go_sem,p0,p1,p2]) rfl ?_;obtain⟨j5,H2⟩:=gP h5.out (.slice none 0 0) (.slice none 0 0) (.slice none 0 0);exact⟨.inl ⟨20,rfl,.inr (.inl ⟨rfl,b9.out,c0.out.symm⟩)⟩,zC f5.out H2 (fun j e=>by have e:P+1=j:=Oj e;have:=f3.out;omega)⟩
 | true =>
  clear p0 p1 p2 f0 f1 f2;have r8:(k:Int)=I.k:=by rw[HK.out];exact h2.out.2.1.2.2.2
  have o3:1<=k:=by have:=h2.out.1.1;omega
  have y8:k<=6:=by have:=h2.out.1.2.1;omega
  have r7:n<=400:=by rw[HN.out];exact h2.out.1.2.2.2
  clear r8;obtain⟨ib,io,ic,ei,_,i1,i2,ir⟩:=(HI.out _ f5.out).some_ (by rw[zO,<-HK.out];exact o3);obtain⟨tb,tf,tc,RB,RO,RC,et,t1,t2,hq⟩:=(HT.out _ f5.out).sq b0.out.1;obtain⟨ab,ao,ac,ea,_,a1,a2,ar⟩:=(HA.out _ f5.out).some_ (by rw[zZ,h2.out.2.1.2.1,<-HN.out];have:=h2.out.1.2.2.1;have:=HN.out;omega);simp only[Value.slice.injEq]at ei et ea;obtain⟨rfl,g9,rfl⟩:=ei;obtain⟨rfl,r3,rfl⟩:=et;obtain⟨rfl,q9,rfl⟩:=ea;rw[zO,<-HK.out]at i1;rw[<-HN.out]at t1;rw[zZ,<-m8.out]at a1;have t2':tC<=9223372036854775807:=by unfold maxLen at t2;omega
  unfold maxLen at i2 a2;obtain⟨IR,HQ,AR⟩:=K3 ir hq ar;have k7:an=n:=by rw[m8.out,h2.out.2.1.2.1,HN.out]
  subst k7;obtain⟨w5,i0⟩:=Nm (w4.alloc (.cells #[.slice none 0 0,.slice none 0 0,.slice none 0 0] 28));have h7:w4.grownBy w5 none:=by rw[i0];exact Ga w4 _ none
  have k5:=heap_alloc_new w4 (.cells #[.slice none 0 0,.slice none 0 0,.slice none 0 0] 28);obtain⟨o,ho⟩:=Nm w4.heap.size;rw[<-i0,<-ho]at k5;have p5:BoxS w4.heap.size (fun _=>False) o 28 w4 w5 [] #[.slice none 0 0,.slice none 0 0,.slice none 0 0] w5:=⟨⟨fun r hr=>by simp at hr,List.Pairwise.nil,fun r hr=>by simp at hr,fun k hk=>hk.elim⟩,fun r hr=>by simp at hr,k5,fun h=>h,Nat.le_refl _,by rw[ho];exact Nat.le_refl _,h7.size,h7,xQ.refl _ _,Nat.le_refl _⟩;obtain⟨q0,q1,q2,q3,q4,q5⟩:=zV (zB g7.out h7);obtain⟨t0,s6,HO,z9⟩:=K4 p5 i0 ho h7;have g0:Hid (∀W:World,w4.grownBy W none->W.heap[P]?=some (.cells #[.int .i64 ik,.slice (some ⟨tb,tf,none⟩) an tC,.slice wA wn wC,.slice (some ⟨ib,io,none⟩) k iC,.slice (some ⟨ab,ao,none⟩) an aC,.slice pA pn pC] 44 (0,0))/\w.grownBy W none):=Kh (fun W hW=>⟨zB g7.out hW,zC f5.out hW⟩);clear ir hq ar g9 r3 q9 i0 h7 k5 p5 ho HI HT HA;go_upto_region 7 with fail;rw[<-s6.out,<-HO.out];go_upto_region 8 with (first|(at_make;refine eI rfl _ _ _ rfl wH rfl .i64 .i64 _ _ k rfl rfl rfl rfl ?b1 ?b2 ?_;(case b1=>omega);(case b2=>(unfold maxLen;omega));intro w6 h1 c6 b6)|fail);obtain⟨pg,n8⟩:=Nm w5.heap.size;have l4:=((t0.out.add c6 h1 (by decide)).nil (e:=3) (sz:=1) (by decide)).nil (e:=3) (sz:=1) (by decide);rw[<-n8]at l4⊢;have m5:Hid (CoS I w4 o k pg (List.replicate k (.slice none 0 0)) [] [] none 0 none 0 (.slice none 0 0) [] w6):=Kh ⟨_,l4.rebase,xO.nil⟩;obtain⟨q0,q1,q2,q3,q4,q5⟩:=zV (g0.out w6 m5.out.g).1;clear h1 c6 b6 l4 n8;go_wp2
  go_loopg [7,8,9,10,35] k (fun gh a7 a8 a9 a10 a35 wr=>∃(a:Nat) (c4:List Value) (Ls js:List Nat) (sI:Option Addr) (cI:Nat) (sP:Option Addr) (cP:Nat),gh+a=k/\a35=.int .i64 a/\PowsR I Ls js a/\CoS I w4 o k pg c4 Ls js sI cI sP cP (.slice none 0 0) [] wr)
  case atStart=>exact⟨0,_,[],[],none,0,none,0,rfl,rfl,⟨rfl,rfl,fun b hb=>by omega⟩,m5.out⟩
  clear m5 q0 q1 q2 q3 q4 q5;obtain⟨a,c4,Ls,js,sI,cI,sP,cP,o6,rfl,H9,H3⟩:=hrel;have m1:=Kh o6;have c9:=Kh H9;have h0:=H3.g;obtain⟨o9,H1⟩:=g0.out wr h0;obtain⟨q0,q1,q2,q3,q4,q5⟩:=zV o9;clear o6 o9;by_cases ha:a<k
  ·have s2:(a:Int)<k:=by omega
   obtain⟨x,ex,d5⟩:=cD h2.out.2.2.2 (i:=a) (by rw[<-HK.out];exact ha);have ci:=(IR.out.kept h0 (by simp)).int a (by rw[<-HK.out];exact ha);rw[ex]at ci
   have i9:Hid ((imI I).getD a 0=x):=Kh (by
    rw[imI,xS (x:=0) (by rw[<-HK.out];exact ha),ex,Int.toNat_natCast])
   have l8:=Kh (bV B wr tb tf tC RB RO RC I.tab x (by have:=H1.size;omega) (HQ.out.kept h0 (by simp)) b0.out.1 (by rw[<-HN.out];exact t1) t2' d5);rw[<-HN.out]at l8;have H4:Ls.length=a:=H9.l1;obtain⟨_,e9,e4,_,_⟩:=H3.cells;have h9:=Kh H3;have q8:=Kh e9;clear ex d5 H3 h0 H1 H9 e9;go_wp2_with fail;refine l8.out.mono ?_;rintro e w7 ⟨L,j,sa,sc,hR,rfl,b5,e5⟩;obtain⟨X,hB,hT⟩:=h9.out;rw[H4]at hB hT;have l6:=hB.fresh e5 (Y:=fun q=>(Value.slice sa L sc).ownBlock=some q) (fun q hq=>b5.lt q hq);have l3:=(hT.kept (hB.mem.keep e5) e5.size).mono (X':=fun q=>X q\/(Value.slice sa L sc).ownBlock=some q) (fun q hq=>.inl hq);have k9:RowX (fun q=>X q\/(Value.slice sa L sc).ownBlock=some q) 3 w7 (.slice sa L sc) (nats (vQ I.tab x L)):=RowX.of_owns b5 (fun q hq=>.inr hq);obtain⟨X1,e8⟩:=Nm ((fun q=>X q\/(Value.slice sa L sc).ownBlock=some q));rw[<-e8]at l6 l3 k9;have b8:=l6.put (j:=0) rfl ha (.slice sa L sc);have l0:=l3.kept b8.kept b8.wk;have k8:=k9.kept b8.kept b8.wk;have l7:=q8.out.kept e5 (by simp);have c7:=l7.cell a (by omega);have f7:=l7.frozen a;obtain⟨u7,n3⟩:=Nm (c4[a]'(by omega));rw[<-n3]at c7;obtain⟨w8,j3⟩:=Nm (w7.setCell ⟨pg,a,none⟩ (.slice sa L sc));rw[<-j3]at b8 l0 k8;have c2:=Kh b8.rebase;obtain⟨q6,p7,HR,s5,t8,b3⟩:=K6 l0 k8 hR j3 e4 H4;clear hR b5 e5 hB hT l6 l3 k9 e8 b8 l0 k8 l7 n3 j3 e4 l8 h9 q8 q0 q1 q2 q3 q4 q5 ci H4;go_upto_region 13 with fail;rw[<-s5.out];clear c7 f7;have d0:=zF c2.out.box 0;simp only[List.getElem_toArray,List.getElem_cons_zero,List.getElem_cons_succ]at d0;have a4:=c2.out.own (r:=⟨w4.heap.size,3,.slice sI a cI,a,nats js,1⟩) (by simp);simp only at a4;have m9:w4.heap.size<=w8.heap.size:=c2.out.grown.size;go_upto_region 14 with (first|(at_builtin;refine rW rfl _ _ _ rfl yI.toN w4.heap.size (.slice sI a cI) a (nats js) rfl a4 [.int .i64 (j:Int)] rfl rfl ?z1 ?z2 ?z3 ?z4 ?_;(case z1=>(intro v hv;simp only[List.mem_cons,List.not_mem_nil,or_false]at hv;subst hv;rfl));(case z2=>(unfold maxLen;omega));(case z3=>(show (a+1)*8<=140737488355328;omega));(case z4=>exact m9);intro sI2 cI2 w9 a0 o8 n9;(have j2:=Kh (c2.out.appAt (j:=1) rfl a0 o8 n9));(have d9:=zF j2.out.box 0);(simp only[List.getElem_toArray,List.getElem_cons_zero,List.getElem_cons_succ]at d9);(have f9:=zA j2.out.box 0))|fail);obtain⟨w10,d7⟩:=Nm (w9.setCell ⟨o,0,none⟩ (.slice sI2 (a+1) cI2));have a5:=j2.out.set 0 (.slice sI2 (a+1) cI2);rw[<-d7]at a5⊢;simp only[sPa,sPb,sPc]at a5;have p9:=Kh (q6.out.kept a5.kept a5.wk);have p6:=Kh (p7.out.kept a5.kept a5.wk);have g5:=Kh a5.rebase;obtain⟨d,hd⟩:=Nm (L-j)
   have s3:L<=an:=by rw[HN.out];exact jZ b0.out.1 (by
    obtain⟨y,ey,hy⟩:=cD h2.out.2.2.2 (i:=a) (by rw[<-HK.out];exact ha);rw[imI,xS (x:=0) (by rw[<-HK.out];exact ha),ey,Int.toNat_natCast]at i9
    rw[<-i9.out];exact hy) HR.out.1
   have y9:=HR.out.2.1;have edi:(L:Int)-(j:Int)=(d:Int):=by omega
   have edw:wrap64 ((L:Int)-(j:Int))=(L:Int)-(j:Int):=IntWalk.wrap64_in _ (by omega);have d1:=zF g5.out.box 1;simp only[List.getElem_toArray,List.getElem_cons_zero,List.getElem_cons_succ]at d1;have a3:=g5.out.own (r:=⟨w4.heap.size,3,.slice sP a cP,a,nats (perL Ls js),1⟩) (by simp);simp only at a3;have d4:w4.heap.size<=w10.heap.size:=g5.out.grown.size;have HD:=Kh hd;have x4:=Kh edi;clear a5 d7 d0 d9 f9 a4 m9 a0 o8 n9 j2 q6 p7 c2 hd edi;go_upto_region 15 with (first|(at_builtin;refine rW rfl _ _ _ rfl yI.toN w4.heap.size (.slice sP a cP) a (nats (perL Ls js)) rfl a3 [.int .i64 ((L:Int)-(j:Int))] rfl rfl ?y1 ?y2 ?y3 ?y4 ?_;(case y1=>(intro v hv;simp only[List.mem_cons,List.not_mem_nil,or_false]at hv;subst hv;rfl));(case y2=>(unfold maxLen;clear edw;omega));(case y3=>(show (a+1)*8<=140737488355328;clear edw;omega));(case y4=>exact d4);intro sP2 cP2 w11 H0 e6 d8;(have j1:=Kh (g5.out.appAt (j:=2) rfl H0 e6 d8));(have d9:=zF j1.out.box 1);(simp only[List.getElem_toArray,List.getElem_cons_zero,List.getElem_cons_succ]at d9);(have f9:=zA j1.out.box 1))|fail);obtain⟨w12,d6⟩:=Nm (w11.setCell ⟨o,1,none⟩ (.slice sP2 (a+1) cP2));have H7:=j1.out.set 1 (.slice sP2 (a+1) cP2);rw[<-d6]at H7⊢;simp only[sPa,sPb,sPc]at H7;have p4:=p9.out.kept H7.kept H7.wk;have p3:=p6.out.kept H7.kept H7.wk
   have x6:Hid (CoS I w4 o k pg (c4.set a (.slice sa L sc)) (Ls++[L]) (js++[j]) sI2 cI2 sP2 cP2 (.slice none 0 0) [] w12):=Kh (by
    have e1:nats js++[.int .i64 (j:Int)]=nats (js++[j]):=by simp[nats]
    have e2:nats (perL Ls js)++[.int .i64 ((L:Int)-(j:Int))]=nats (perL (Ls++[L]) (js++[j])):=by
     rw[x4.out,qGF L j (by rw[c9.out.l1,c9.out.l2]),HD.out];simp[nats]
    have e3:a+1=(Ls++[L]).length:=by rw[List.length_append,List.length_singleton,b3.out]
    rw[e1,e2,e3]at H7;refine⟨X1,H7.rebase,?_⟩;rw[<-e3,qDQ,b3.out,i9.out,List.take_add_one,List.getElem?_set_self (by have:=t8.out;omega),List.take_set_of_le (Nat.le_refl _)]
    exact p4.snoc p3)
   have t3:Hid (PowsR I (Ls++[L]) (js++[j]) (a+1)):=Kh (c9.out.add (by rw[i9.out];exact HR.out));clear H7 p4 p3 d6 d1 d9 f9 a3 d4 H0 e6 d8 j1 g5 p9 p6 edw;go_wp2;go_roundg (k-(a+1))
   case measure=>have:=m1.out;omega
   exact⟨a+1,_,_,_,_,_,_,_,by have:=m1.out;omega,by go_num,t3.out,x6.out⟩
  have s1:k=a:=by have:=m1.out;omega
  have s2:¬(a:Int)<k:=(by omega);subst s1;have t4:=Kh H9.posC;have H4:Ls.length=k:=H9.l1;have b7:js.length=k:=H9.l2;obtain⟨H6,e9,e4,a4,a3⟩:=H3.cells;rw[H4]at H6 a4 a3;have b4:=qCU wr.heap.size wr (.slice sI k cI) (.slice sP k cP) (.slice none 0 0) (vK js) (vK (perL Ls js)) (by rw[mI];exact Row.of_owns a4) (by rw[mI];exact Row.of_owns a3) (by rw[tU,tU,sV,H4,b7]) t4.out (by rw[tU,b7];exact o3);have x9:=Kh H6;have h9:=Kh H3;have m7:=Kh (zB h5.out h0);obtain⟨x0,x3,b3,z7⟩:=K4 H1 h0 H4 b7;obtain⟨o0,o1,o2⟩:=uM H6;have l9:Hid (k=I.images.length):=HK;rcases hct:uE (vK js) (vK (perL Ls js)) k with _|c
  ·obtain⟨e1,e2⟩:=aZ hct (by rw[tU,b7];exact Nat.le_refl _)
   rw[e1,e2]at b4;have t6:Hid (qNM I):=Kh ⟨Ls,js,by rw[<-l9.out];exact c9.out,by rw[<-l9.out];exact hct⟩;have b4:=Kh b4;clear e1 e2 hct H6 e9 e4 a4 a3 H3 h0 H1 H4 b7 H9;go_wp2_with fail;refine b4.out.mono ?_;rintro e w5 ⟨rfl,h7⟩;have f8:=Kh (zB m7.out h7);have t9:=Kh (zC x0.out h7);obtain⟨p0,p1,p2⟩:=uM f8.out;have f0:=zA f8.out 0;have f1:=zA f8.out 1;have f2:=zA f8.out 2;clear h7;go_wp2;refine bodyPost_ret (v:=.tuple #[.agg #[.slice none 0 0,.slice none 0 0,.slice none 0 0],.int .i64 3]) (by simp[results,Try.results16,go_sem,p0,p1,p2]) rfl ?_;obtain⟨j5,H2⟩:=gP f8.out (.slice none 0 0) (.slice none 0 0) (.slice none 0 0);exact⟨.inl ⟨3,rfl,.inr (.inr ⟨rfl,b9.out,c0.out.symm,t6.out⟩)⟩,zC t9.out H2 (fun j e=>by have e:P+1=j:=Oj e;have:=f3.out;omega)⟩
  obtain⟨e1,e2⟩:=gJ (idx:=vK js) (per:=vK (perL Ls js)) (c:=c) (by rw[tU,b7];exact hct);rw[e1,e2]at b4;have s0:=kB hct;have x7:=Kh hct;have b4:=Kh b4;clear e1 e2 hct H6 e9 e4 a4 a3 H3 h0 H1 H4 b7 H9;go_wp2_with fail;refine b4.out.mono ?_;rintro e w5 ⟨rfl,h7⟩;have m6:=Kh (h9.out.grow h7);clear h7 o0 o1 o2 q0 q1 q2 q3 q4 q5;have H6:=m6.out.cells.1;rw[b3.out]at H6;have g3:=Kh H6;clear H6;go_upto_region 20 with (first|(at_make;refine eI rfl _ _ _ rfl wN rfl .i64 .i64 _ _ c rfl rfl rfl rfl ?b1 ?b2 ?_;(case b1=>omega);(case b2=>(unfold maxLen;omega));intro w6 h1 c6 b6;(have k4:=zB g3.out c6);(obtain⟨d0,d1,d2⟩:=uM k4);(have f2:=zA k4 2))|fail);obtain⟨ag,c8⟩:=Nm w5.heap.size;obtain⟨w7,j4⟩:=Nm (w6.setCell ⟨o,2,none⟩ (.slice (some ⟨w5.heap.size,0,none⟩) c c));rw[show List.replicate c (Value.bool false)=bls (List.replicate c false) by simp[bls],<-c8,<-qEA I Ls k c]at h1
  have m4:Hid (CoS I w4 o k pg c4 Ls js sI cI sP cP (.slice (some ⟨ag,0,none⟩) c c) [⟨w4.heap.size,4,.slice (some ⟨ag,0,none⟩) c c,c,bls (lQ I Ls k c 0),1⟩] w7):=Kh (by
   rw[j4,<-c8];have:=m6.out.begin (ag:=ag) (c:=c) (xs:=lQ I Ls k c 0) c6 (by rw[c8];rw[c8]at h1;exact h1)
   exact this)
  rw[<-j4,<-c8];clear h1 c6 b6 k4 d0 d1 d2 f2 c8 j4 g3 m6 h9 x9;obtain⟨o0,o1,o2⟩:=uM m4.out.cells.1;clear o0 o1;go_wp2
  go_loopg [13,14,15,16,81] c (fun gh a13 a14 a15 a16 a81 wr=>∃i:Nat,gh+i=c/\a81=.int .i64 i/\CoS I w4 o k pg c4 Ls js sI cI sP cP (.slice (some ⟨ag,0,none⟩) c c) [⟨w4.heap.size,4,.slice (some ⟨ag,0,none⟩) c c,c,bls (lQ I Ls k c i),1⟩] wr)
  case atStart=>exact⟨0,rfl,rfl,m4.out⟩
  clear m4 o2;obtain⟨i,o5,rfl,H3⟩:=hrel;have m0:=Kh o5;have h9:=Kh H3;clear o5 H3;by_cases hi:i<c
  ·have r9:(i:Int)<c:=by omega
   go_wp2
   go_loopg [14,15,16] k (fun gh a14 a15 a16 wx=>∃(b r v q:Nat) (z:Int),gh=b/\a14=.int .i64 (r:Int)/\a15=.int .i64 (v:Int)/\a16=.int .i64 z/\z=(b:Int)-1/\b<=k/\r<=2000/\v<an/\valC I.tab (imI I) Ls b r v=valC I.tab (imI I) Ls k i 0/\wx=wr.drewN q)
   case atStart=>exact⟨k,i,0,0,(k:Int)-1,rfl,rfl,rfl,by go_num,rfl,Nat.le_refl _,by omega,by have:=h2.out.1.2.2.1;have:=HN.out;omega,rfl,rfl⟩
   obtain⟨b,r,v,q,z,o7,rfl,rfl,rfl,hz,z0,hr,hv,h3,rfl⟩:=hrel;have p8:=Kh h3;have x2:=Kh o7;have H5:=h9.out.grow (zT wr q none);have x8:=Kh H5;clear h3 o7;rcases b with _|b
   ·obtain rfl:z = -1:=by omega
    have h4:=H5.g;obtain⟨q0,q1,q2,q3,q4,q5⟩:=zV (g0.out _ h4).1;have e0:v=valC I.tab (imI I) Ls k i 0:=p8.out;have c1:=(AR.out.kept h4 (by simp)).boolQ v (by rw[<-m8.out];exact hv);have x5:=Kh e0;clear H5 h4 e0 hz q0 q1 q2 q3 q5;go_upto_region 29 with fail;refine qNB x8.out hi s0 hv r7 ⟨a1,a2⟩ q4 c1 ?_;intro z119 z120 z121 z122 z123 z124 z125 z126 z127 w8 h8;rw[x5.out,qHG hi]at h8;have H8:=Kh h8;clear h8 c1 q4;go_wp2;go_roundg (c-(i+1))
    case measure=>have:=m0.out;omega
    exact⟨i+1,by have:=m0.out;omega,by go_num,H8.out⟩
   obtain rfl:z=(b:Int):=by omega
   have h4:=h9.out.g;obtain⟨q0,q1,q2,q3,q4,q5⟩:=zV (g0.out _ h4).1;have e7:b<k:=(by omega);obtain⟨c5,n7,_⟩:=c9.out.pow b (by exact e7);obtain⟨rb,ro,rc,cr,rc1,rc2,cel⟩:=h9.out.row (b:=b) (by rw[b3.out];exact e7) (by omega) (by rw[b3.out];exact Nat.le_refl _);obtain⟨L,hL⟩:=Nm (Ls.getD b 0);rw[<-hL]at cr rc1 cel n7 c5;have s4:0<L:=by omega
   have k0:(imI I).getD b 0<I.tab.length:=by
    obtain⟨y,ey,hy⟩:=cD h2.out.2.2.2 (i:=b) (by rw[<-HK.out];exact e7);rw[imI,xS (x:=0) (by rw[<-HK.out];exact e7),ey,Int.toNat_natCast];exact hy
   have s3:L<=an:=by rw[HN.out];exact jZ b0.out.1 k0 c5
   obtain⟨t,ht⟩:=Nm (r % L);obtain⟨s,hs⟩:=Nm (r / L);have n4:t<L:=(by rw[ht];exact Nat.mod_lt _ s4);have r5:s<=r:=by rw[hs];exact Nat.div_le_self _ _
   have ce:=cel t n4;obtain⟨x,hx⟩:=Nm (powN I.tab ((imI I).getD b 0) t);rw[<-hx]at ce;have d5:x<an:=(by rw[hx,HN.out];exact dS b0.out.1 k0 t);have i4:=HQ.out.kept h4 (row:=none) (by simp);have cv:=i4.hd v (by rw[<-HN.out];exact hv);have cx:=i4.el v x (by rw[<-HN.out];exact hv) (by rw[<-HN.out];exact d5);have cc:=i4.cap v (by rw[<-HN.out];exact hv);rw[<-HN.out]at cv cc;obtain⟨y,hy⟩:=Nm (entN I.tab v x);rw[<-hy]at cx;have r4:y<an:=(by rw[hy,HN.out];exact qK b0.out.1 (by rw[<-HN.out];exact hv) (by rw[<-HN.out];exact d5));have s9:Hid (valC I.tab (imI I) Ls b s y=valC I.tab (imI I) Ls k i 0):=Kh (by rw[<-p8.out,valC,<-hL,<-ht,<-hx,<-hy,<-hs]);have f4:(r:Int).tmod (L:Int)=(t:Int):=by rw[ht];exact Int.ofNat_tmod r L
   have g4:(r:Int).tdiv (L:Int)=(s:Int):=by rw[hs];exact Int.ofNat_tdiv r L
   have f6:IntKind.i64.wrap (t:Int)=(t:Int):=vD (by omega);have g6:wrap64 (s:Int)=(s:Int):=IntWalk.wrap64_in _ (by omega);have y7:¬(L:Int)=0:=by omega
   have z6:(b:Int)<k:=(by omega);have y5:(v:Int)<an:=(by omega);have y0:(x:Int)<an:=(by omega);have y6:(t:Int)<L:=(by omega);have cc1:=cc.1;have cc2:RC v<=9223372036854775807:=by have:=cc.2;unfold maxLen at this;omega
   have rc2':rc<=9223372036854775807:=by unfold maxLen at rc2;omega
   obtain⟨rv,j8⟩:=Nm (RB v);obtain⟨rw',j7⟩:=Nm (RO v);obtain⟨rz,j6⟩:=Nm (RC v);rw[<-j8,<-j7]at cx;rw[<-j8,<-j7,<-j6]at cv;rw[<-j6]at cc1 cc2;have z5:(0:Int)<=b:=by omega
   clear j8 j7 j6 cc rc2 H5 h4 c5 n7 cel hL k0 ht hs hx i4 hy hz q0 q2 q3 q4 q5 n4;go_wp2
   go_quiet (fail)
   clear f4 f6;go_wp2;go_roundg b
   case measure=>have:=x2.out;omega
   exact⟨b,s,y,_,(b:Int)-1,rfl,by go_num,by go_num,by go_num,rfl,Nat.le_of_lt e7,Nat.le_trans r5 hr,r4,s9.out,by first|rfl|exact World.drewN_drewN _ _ _⟩
  have k1:c=i:=by have:=m0.out;omega
  have r9:¬(i:Int)<c:=(by omega);have z8:=Kh k1;obtain⟨o0,o1,o2⟩:=uM h9.out.cells.1;rw[b3.out]at o0 o1;have h0:=h9.out.g;have d3:=Kh (zB h5.out h0);have x1:=Kh (g0.out _ h0).2;obtain⟨r0,r1,r2⟩:=uM d3.out;have f0:=zA d3.out 0;have f1:=zA d3.out 1;have f2:=zA d3.out 2;have k2:=h9.out.cntT;rw[b3.out,<-k1]at k2;have m2:=Kh k2;clear h0 k1 k2;go_wp2;refine bodyPost_ret (v:=.tuple #[.agg #[.slice sI k cI,.slice sP k cP,.slice (some ⟨ag,0,none⟩) c c],.int .i64 0]) (by simp[results,Try.results16,go_sem,r0,r1,r2]) rfl ?_;obtain⟨j5,H2⟩:=gP d3.out (.slice sI k cI) (.slice sP k cP) (.slice (some ⟨ag,0,none⟩) c c)
  have j9:∀e',e'≠28->∀j,(some (P+1):Option Nat)=some j->wr.heap.size<=j\/xI wr e' j:=fun e' he j hj=>by
   have hj:=Oj hj;subst hj;exact .inr ⟨_,_,_,d3.out,fun e1=>he e1.symm⟩
  have hz:=H2.size;have e1:ints (vK js)=nats js:=mI js;have e2:ints (vK (perL Ls js))=nats (perL Ls js):=mI _;have n6:=((m2.out.1.kept H2 (j9 _ (by decide))).mono hz).row;have n5:=((m2.out.2.1.kept H2 (j9 _ (by decide))).mono hz).row;have r6:=((m2.out.2.2.kept H2 (j9 _ (by decide))).mono hz).row;rw[<-e1]at n6;rw[<-e2]at n5;exact⟨.inr ⟨⟨vK js,vK (perL Ls js),lQ I Ls k c c⟩,_,rfl,b9.out,c0.out.symm,qIQ.make l9.out c9.out x7.out,_,_,_,rfl,n6,n5,r6⟩,zC x1.out H2 (fun j e=>by have e:P+1=j:=Oj e;have:=f3.out;omega)⟩
end Go.Proofs.Ytobakifdllameaa
