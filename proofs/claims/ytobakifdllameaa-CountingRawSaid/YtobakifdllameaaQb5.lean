/- Part 5 of the proof. -/
import Derived.Test.YtobakifdllameaaQb4
import Derived.Deep.OwnRows
import Derived.WalkSpells
set_option linter.unusedVariables false
set_option linter.unusedSimpArgs false
set_option maxRecDepth 100000
set_option maxHeartbeats 16000000
namespace Go.Proofs.Ytobakifdllameaa
def radN (c:CntV)(a:Nat):Nat:=iN c a+pN c a
def uR (r:Nat->Nat)(a:Nat):Nat->Nat
 | 0=>1
 | b+1=>if a<=b then uR r a b*r b else 1
theorem oY {r:Nat->Nat}{a:Nat}:∀ {b:Nat},b<=a->uR r a b=1
 | 0,_=>rfl
 | b+1,h=>by rw[uR,if_neg (by omega)]
theorem pY {r:Nat->Nat}{a b:Nat}(h:a<=b):uR r a (b+1)=uR r a b*r b:=by rw[uR,if_pos h]
theorem sD {r:Nat->Nat}{a:Nat}:∀ {b:Nat},a<b->uR r a b=r a*uR r (a+1) b
 | 0,h=>by omega
 | b+1,h=>by
  rcases Nat.lt_or_ge a b with h1|h1
  ·rw[pY (by omega),pY (by omega),sD h1,Nat.mul_assoc]
  ·have e:a=b:=by omega
   subst e
   rw[pY (Nat.le_refl _),oY (Nat.le_refl _),oY (Nat.le_refl _),Nat.one_mul,Nat.mul_one]
theorem fV {r:Nat->Nat}{a:Nat}:∀ {b:Nat},(∀x,x<b->0<r x)->0<uR r a b
 | 0,_=>Nat.one_pos
 | b+1,h=>by
  rw[uR];split
  ·exact Nat.mul_pos (fV (fun x hx=>h x (by omega))) (h b (by omega))
  ·exact Nat.one_pos
def stN (c:CntV)(a:Nat):Nat:=uR (radN c) (a+1) c.idx.length
def digN (c:CntV)(q a:Nat):Nat:=q / stN c a % radN c a
def nxtE (c:CntV)(d a:Nat):Nat:=if d+1=radN c a then iN c a else d+1
def qL (c:CntV)(q a:Nat):Nat:=q-digN c q a*stN c a+nxtE c (digN c q a) a*stN c a
section
variable {c:CntV}
theorem oX (h:PosC c.idx c.per){a:Nat}(ha:a<c.idx.length):0<radN c a/\1<=pN c a:=by
 have:=h a ha;unfold radN iN pN;omega
theorem qFK (h:PosC c.idx c.per){a:Nat}(ha:a<c.idx.length)(n:Nat):asN n (iN c a) (pN c a)<radN c a:=qCO (oX h ha).2
theorem qFJ {n i p:Nat}(h:n<i+p):asN n i p=n:=by
 unfold asN
 split
 ·rfl
 rw[Nat.mod_eq_of_lt (by omega)];omega
theorem qON {n i p:Nat}(hp:1<=p):asN (n+1) i p=if asN n i p+1=i+p then i else asN n i p+1:=by
 unfold asN;by_cases h1:n<i
 ·rw[if_pos h1]
  by_cases h2:n+1<i
  ·rw[if_pos h2,if_neg (by omega)]
  have e:n+1=i:=by omega
  rw[if_neg h2,e,Nat.sub_self,Nat.zero_mod]
  split
  ·rfl
  rfl
 rw[if_neg h1,if_neg (by omega)];obtain⟨m,hm⟩:=Nm (n-i);rw[show n+1-i=m+1 by omega,<-hm];have h2:=Nat.mod_lt m (show p > 0 by omega);have h3:=Nat.add_mod m 1 p;by_cases h4:m % p+1=p
 ·rw[if_pos (by omega)]
  have:(m+1) % p=0:=by
   rw[h3];rcases Nat.lt_or_ge 1 p with h5|h5
   ·rw[Nat.mod_eq_of_lt h5,h4,Nat.mod_self]
   have e:p=1:=by omega
   subst e;rw[Nat.mod_one]
  omega
 rw[if_neg (by omega)]
 have:(m+1) % p=m % p+1:=by
  rw[h3,Nat.mod_eq_of_lt (show 1<p by omega),Nat.mod_eq_of_lt (by omega)]
 omega
theorem qSA (h:PosC c.idx c.per)(ns:List Nat){b:Nat}(hb:b<=c.idx.length):atTo c ns c.idx.length / uR (radN c) b c.idx.length=atTo c ns b:=by
 obtain⟨m,hm⟩:=Nm (c.idx.length-b)
 induction m generalizing b with
 | zero =>
  have e:b=c.idx.length:=by omega
  rw[e,oY (Nat.le_refl _),Nat.div_one]
 | succ m ih =>
  have h0:b<c.idx.length:=by omega
  rw[sD h0,Nat.mul_comm,<-Nat.div_div_eq_div_mul,ih (b:=b+1) (by omega) (by omega),atTo];have h1:=qFK h h0 (ns.getD b 0);show (atTo c ns b*radN c b+_) / radN c b=_;rw[Nat.mul_comm,Nat.mul_add_div (oX h h0).1,Nat.div_eq_of_lt h1,Nat.add_zero]
theorem qSC (h:PosC c.idx c.per)(ns:List Nat){a:Nat}(ha:a<c.idx.length):digN c (atTo c ns c.idx.length) a=asN (ns.getD a 0) (iN c a) (pN c a):=by
 unfold digN stN;rw[qSA h ns (b:=a+1) ha,atTo];show (atTo c ns a*radN c a+_) % radN c a=_;rw[Nat.mul_comm,Nat.mul_add_mod,Nat.mod_eq_of_lt (qFK h ha _)]
theorem qKZ (ns ms:List Nat){a:Nat}(he:∀b,b≠a->ns.getD b 0=ms.getD b 0):∀b,a<b->(atTo c ms b:Int)=atTo c ns b+((asN (ms.getD a 0) (iN c a) (pN c a):Int)-(asN (ns.getD a 0) (iN c a) (pN c a):Int))*uR (radN c) (a+1) b:=by
 have h0:∀b,b<=a->atTo c ms b=atTo c ns b:=by
  intro b
  induction b with
  | zero=>intro _;rfl
  | succ b ih=>intro hb;rw[atTo,atTo,ih (by omega),he b (by omega)]
 intro b
 induction b with
 | zero=>intro hb;omega
 | succ b ih =>
  intro hb;rcases Nat.lt_or_ge a b with h1|h1
  ·rw[atTo,atTo,he b (by omega),pY (by omega)]
   have:=ih h1;rw[show iN c b+pN c b=radN c b from rfl];simp only[Int.natCast_add,Int.natCast_mul];rw[this];rw[Int.add_mul,Int.mul_assoc];omega
  have e:b=a:=by omega
  subst e;rw[atTo,atTo,h0 b (Nat.le_refl _),oY (Nat.le_refl _)];simp only[Int.natCast_add,Int.natCast_mul];omega
theorem cZ {u:List Nat}{a b k:Nat}(hb:b<k):(xN k (u++[a])).getD b 0=(xN k u).getD b 0+if b=a then 1 else 0:=by
 rw[oJ hb,oJ hb,List.count_append];by_cases h:b=a
 ·subst h;simp
 have:[a].count b=0:=List.count_eq_zero.2 (by simpa using h);rw[this,if_neg h]
theorem qEF (h:PosC c.idx c.per){ns ms:List Nat}{a:Nat}(ha:a<c.idx.length)(he:∀b,b≠a->ns.getD b 0=ms.getD b 0)(h1:ms.getD a 0=ns.getD a 0+1):atTo c ms c.idx.length=qL c (atTo c ns c.idx.length) a:=by
 have e:=qKZ (c:=c) ns ms he c.idx.length ha;have hd:=qSC h ns ha;have hp:=oX h ha;unfold qL;rw[hd];rw[h1,qON hp.2]at e;have hx:nxtE c (asN (ns.getD a 0) (iN c a) (pN c a)) a=if asN (ns.getD a 0) (iN c a) (pN c a)+1=iN c a+pN c a then iN c a else asN (ns.getD a 0) (iN c a) (pN c a)+1:=rfl
 rw[<-hx]at e
 have h0:asN (ns.getD a 0) (iN c a) (pN c a)*stN c a<=atTo c ns c.idx.length:=by
  rw[<-hd];unfold digN;have:=Nat.mod_le (atTo c ns c.idx.length / stN c a) (radN c a)
  calc _<=atTo c ns c.idx.length / stN c a*stN c a:=Nat.mul_le_mul_right _ this
   _<=_:=Nat.div_mul_le_self _ _
 generalize nxtE c (asN (ns.getD a 0) (iN c a) (pN c a)) a=x at e⊢
 generalize asN (ns.getD a 0) (iN c a) (pN c a)=d at e h0⊢
 have e2:(atTo c ms c.idx.length:Int)=atTo c ns c.idx.length+((x*stN c a:Nat):Int)-((d*stN c a:Nat):Int):=by
  rw[e,Int.sub_mul];simp only[Int.natCast_mul];show _=_+(x:Int)*(uR (radN c) (a+1) c.idx.length:Int)-(d:Int)*(uR (radN c) (a+1) c.idx.length:Int);omega
 omega
def dfaC (c:CntV):DfaV:=⟨c.idx.length,0,c.acc,(List.range c.acc.length).map fun q=>(List.range c.idx.length).map fun a=>(qL c q a:Int)⟩
theorem aT {q:Nat}(hq:q<c.acc.length):(dfaC c).next.getD q []=(List.range c.idx.length).map fun a=>(qL c q a:Int):=by
 rw[zN (by simpa [dfaC] using hq)];simp[dfaC]
theorem fB {q a:Nat}(hq:q<c.acc.length)(ha:a<c.idx.length):ent (dfaC c).next q a=(qL c q a:Int):=by
 unfold ent;rw[aT hq,zN (by simpa using ha)];simp
theorem qAU {idx per:List Int}(hp:PosC idx per):∀ {a m:Nat},a<=idx.length->uJ idx per a=some m->uR (fun b=>(idx.getD b 0).toNat+(per.getD b 0).toNat) 0 a=m
 | 0,m,_,h=>by rw[uJ]at h;exact Oj h
 | a+1,m,ha,h=>by
  rw[uJ]at h
  rcases hc:uJ idx per a with _|x
  ·rw[hc]at h;cases h
  ·rw[hc]at h
   simp only at h
   split at h
   ·cases h
   ·rw[pY (by omega),qAU hp (by omega) hc]
    have:=hp a (by omega)
    rw[<-Oj h]
    congr 1
    omega
theorem bY (h:CntOk c):uR (radN c) 0 c.idx.length=c.acc.length:=qAU h.pos (Nat.le_refl _) h.size
theorem qEE (h:CntOk c){q:Nat}(hq:q<c.acc.length):atTo c ((List.range c.idx.length).map (digN c q)) c.idx.length=q:=by
 have key:∀b,b<=c.idx.length->atTo c ((List.range c.idx.length).map (digN c q)) b=q / uR (radN c) b c.idx.length:=by
  intro b
  induction b with
  | zero =>
   intro _;rw[bY h,Nat.div_eq_of_lt hq];rfl
  | succ b ih =>
   intro hb;have hp:=oX h.pos (a:=b) (by omega);have hg:((List.range c.idx.length).map (digN c q)).getD b 0=digN c q b:=by rw[zN (by simp;omega)];simp
   have h0:digN c q b<radN c b:=Nat.mod_lt _ hp.1;rw[atTo,ih (by omega),hg,qFJ h0,sD (show b<c.idx.length by omega),Nat.mul_comm (radN c b),<-Nat.div_div_eq_div_mul];show q / stN c b / radN c b*radN c b+q / stN c b % radN c b=_;have:=Nat.div_add_mod (q / stN c b) (radN c b);rw[Nat.mul_comm]at this;exact this
 rw[key _ (Nat.le_refl _),oY (Nat.le_refl _),Nat.div_one]
theorem qJO (h:CntOk c){q a:Nat}(hq:q<c.acc.length)(ha:a<c.idx.length):qL c q a<c.acc.length:=by
 obtain⟨ns,h0⟩:=Nm ((List.range c.idx.length).map (digN c q));have hl:ns.length=c.idx.length:=by rw[h0];simp
 have h1:=qEF h.pos (ns:=ns) (ms:=ns.set a (ns.getD a 0+1)) ha (fun b hb=>by rw[List.getD_eq_getElem?_getD,List.getD_eq_getElem?_getD,List.getElem?_set_ne (fun e=>hb e.symm)]) (by rw[List.getD_eq_getElem?_getD,List.getElem?_set_self (by omega)];rfl);rw[h0,qEE h hq,<-h0]at h1;rw[<-h1];exact qCN h.pos _ _ _ (Nat.le_refl _) h.size
theorem nO (h:CntOk c):VD (dfaC c) c.acc.length c.idx.length:=by
 have h0:0<c.acc.length:=by
  rw[<-bY h];exact fV (fun x hx=>(oX h.pos hx).1)
 have h2:=nQ h.size;refine⟨rfl,h.k1,h.k6,rfl,by omega,by omega,by simp[dfaC],by simp[dfaC],by show (0:Int)<_;omega,fun q hq=>by rw[aT hq];simp,fun q a hq ha=>by rw[fB hq ha];omega,fun q a hq ha=>by rw[fB hq ha];have:=qJO h hq ha;omega⟩
theorem qNZ (h:CntOk c):∀(n:Nat) (u:List Nat),u.length=n->tP c.idx.length u->run (dfaC c) 0 u=atTo c (xN c.idx.length u) c.idx.length:=by
 intro n
 induction n with
 | zero =>
  intro u hn _;obtain rfl:=List.eq_nil_of_length_eq_zero hn;rw[iQ]
  have:∀b,b<=c.idx.length->atTo c (List.replicate c.idx.length 0) b=0:=by
   intro b
   induction b with
   | zero=>intro _;rfl
   | succ b ih =>
    intro hb;have hp:=oX h.pos (a:=b) (by omega);have hg:(List.replicate c.idx.length 0).getD b 0=0:=by rw[zN (by simp;omega)];simp
    rw[atTo,ih (by omega),hg,qFJ (show 0<iN c b+pN c b from hp.1),Nat.zero_mul]
  rw[this _ (Nat.le_refl _)];rfl
 | succ n ih =>
  intro u' hn hu
  obtain⟨u,a,rfl⟩:∃u a,u'=u++[a]:=by
   rcases List.eq_nil_or_concat u' with rfl|⟨u,a,e⟩
   ·simp at hn
   exact⟨u,a,by simpa using e⟩
  have h2:u.length=n:=by simpa using hn
  have h0:tP c.idx.length u:=fun b hb=>hu b (List.mem_append_left _ hb);have ha:a<c.idx.length:=hu a (by simp);have e:run (dfaC c) 0 (u++[a])=nx (dfaC c) (run (dfaC c) 0 u) a:=by unfold run;rw[List.foldl_append];rfl
  rw[e,ih u h2 h0];have h3:=qCN h.pos (xN c.idx.length u) _ _ (Nat.le_refl _) h.size
  have e2:nx (dfaC c) (atTo c (xN c.idx.length u) c.idx.length) a=qL c (atTo c (xN c.idx.length u) c.idx.length) a:=by
   unfold nx entN;rw[fB h3 ha,Int.toNat_natCast]
  rw[e2];refine(qEF h.pos ha (fun b hb=>?_) ?_).symm
  ·rcases Nat.lt_or_ge b c.idx.length with h1|h1
   ·rw[cZ h1,if_neg hb];rfl
   rw[List.getD_eq_getElem?_getD,List.getD_eq_getElem?_getD,List.getElem?_eq_none (by rw[wQ];exact h1),List.getElem?_eq_none (by rw[wQ];exact h1)]
  rw[cZ ha,if_pos rfl]
def digW (c:CntV)(q:Nat):List Nat:=(List.range c.idx.length).flatMap fun a=>List.replicate (digN c q a) a
theorem qKO (q:Nat):tP c.idx.length (digW c q):=fun x hx=>by
 obtain⟨a,ha,h⟩:=List.mem_flatMap.1 hx
 rw[List.eq_of_mem_replicate h];exact List.mem_range.1 ha
theorem qNW (q:Nat):xN c.idx.length (digW c q)=(List.range c.idx.length).map (digN c q):=by
 refine List.ext_getElem (by simp[xN]) fun b h1 h2=>?_;rw[wQ]at h1;simp only[xN,List.getElem_map,List.getElem_range]
 have key:∀n,n<=c.idx.length->((List.range n).flatMap fun a=>List.replicate (digN c q a) a).count b=if b<n then digN c q b else 0:=by
  intro n
  induction n with
  | zero=>intro _;simp
  | succ n ih =>
   intro hn;rw[List.range_succ,List.flatMap_append,List.count_append,ih (by omega)];simp only[List.flatMap_cons,List.flatMap_nil,List.append_nil,List.count_replicate];by_cases e:n=b
   ·subst e;simp
   have e2:¬b=n:=fun h=>e h.symm;rcases Nat.lt_or_ge b n with h3|h3
   ·simp[h3,show b<n+1 by omega,e]
   simp[show ¬b<n by omega,show ¬b<n+1 by omega,e]
 unfold digW;rw[key _ (Nat.le_refl _),if_pos h1]
theorem qGZ (h:CntOk c){q:Nat}(hq:q<c.acc.length):∃u,tP c.idx.length u/\run (dfaC c) 0 u=q :=
 ⟨digW c q,qKO q,by rw[qNZ h _ _ rfl (qKO q),qNW,qEE h hq]⟩
end
open Go.RowKit
theorem qPD (n:Nat)(h:n<=4096):∀w:World,(Instr.makeSlice 22 (.int .i64 (n:Int)) (.int .i64 (n:Int))).run Try.prog w=.ok (.slice (some ⟨w.heap.size,0,none⟩) n n) (w.alloc (.cells (madeCells #[.int .i64 0] n) 3)) :=
 fun w=>run_make_row' 22 3 (.int .i64 0) 8 Try.underlying22 (by kernel_rfl) rfl .i64 .i64 n (by omega) (by omega) w
theorem aL (n:Nat):(madeCells #[.int .i64 0] n).toList=nats (List.replicate n 0):=by
 have:=qX (z:=.int .i64 0) rfl n;rw[Nat.mul_one]at this;rw[yM];exact this
end Go.Proofs.Ytobakifdllameaa
namespace Go.Proofs.Ytobakifdllameaa
def lW (d:DfaV)(p:List Nat)(q x:Nat):List Nat:=(p.getD q 0::(List.range x).map fun a=>p.getD (nx d q a) 0)++List.replicate (6-x) 0
theorem mK {d:DfaV}{p:List Nat}{q x:Nat}(h:x<=6):(lW d p q x).length=7:=by simp[lW];omega
theorem qID {d:DfaV}{p:List Nat}{q x:Nat}(h:x<6):(lW d p q x).set (1+x) (p.getD (nx d q x) 0)=lW d p q (x+1):=by
 unfold lW;rw[List.set_append_right _ _ (by simp;omega),List.range_succ,List.map_append,show 6-x=(6-(x+1))+1 by omega,List.replicate_succ];simp[Nat.add_comm]
theorem qLZ {d:DfaV}{p:List Nat}{q x N:Nat}(h:∀c∈p,c<N)(hN:0<N):∀y∈lW d p q x,y<N:=by
 intro y hy;rcases List.mem_append.1 hy with hy|hy
 ·rcases List.mem_cons.1 hy with rfl|hy
  ·exact sM h hN
  obtain⟨a,_,rfl⟩:=List.mem_map.1 hy;exact sM h hN
 rw[List.mem_replicate]at hy;omega
theorem qIE {d:DfaV}{p:List Nat}{q q' k:Nat}:lW d p q k=lW d p q' k↔p.getD q 0=p.getD q' 0/\∀a,a<k->p.getD (nx d q a) 0=p.getD (nx d q' a) 0:=by
 unfold lW;constructor
 ·intro h
  have h:=List.append_cancel_right h;rw[List.cons.injEq,List.map_inj_left]at h;exact⟨h.1,fun a ha=>h.2 a (List.mem_range.2 ha)⟩
 rintro ⟨h1,h2⟩;rw[h1,List.map_congr_left (fun a ha=>h2 a (List.mem_range.1 ha))]
def sigL (d:DfaV)(k:Nat)(p:List Nat):List (List Nat):=(List.range p.length).map fun q=>lW d p q k
theorem kG (d:DfaV)(k:Nat)(p:List Nat):(sigL d k p).length=p.length:=by simp[sigL]
theorem bR {d:DfaV}{k:Nat}{p:List Nat}{q:Nat}(h:q<p.length):(sigL d k p)[q]'(by rw[kG];exact h)=lW d p q k:=by simp[sigL]
theorem qIB {d:DfaV}{n k:Nat}(hd:VD d n k){p:List Nat}(hp:p.length=n)(hn:Norm p):numb (sigL d k p)=tF d p k:=by
 have h0:∀c∈p,c<n:=by have:=pP hn;rwa [hp]at this
 have hl:=kG d k p;refine jF (mM _) (lL hn k) ⟨by rw[yW,hl,xK],fun i j hi hj=>?_⟩;rw[yW,hl]at hi hj;rw[nD (by omega) (by omega),bR hi,bR hj,qIE,rB hd hp h0 (by omega) (by omega) k (Nat.le_refl _)]
theorem dX {α:Type}[DecidableEq α]{l:List α}{k:Nat}(hk:k<l.length):(numb l).getD k 0=if l[k]∈yO (l.take k) then (yO (l.take k)).idxOf l[k] else (yO (l.take k)).length:=by
 rw[zN (by rw[yW];exact hk),pJ hk,<-qBH hk,List.take_succ_eq_append_getElem hk,tY];by_cases h:l[k]∈yO (l.take k)
 ·rw[uZ h,if_pos h]
 rw[vK h,if_neg h,List.idxOf_append,if_neg h];simp
theorem kO {α:Type}[DecidableEq α]{l:List α}{k:Nat}(hk:k<l.length):yO (l.take (k+1))=wK (yO (l.take k)) l[k]:=by
 rw[List.take_succ_eq_append_getElem hk,tY]
theorem qFF {α:Type}[DecidableEq α](l:List α):cls (numb l)=(yO l).length:=by
 unfold cls numb;rw[eX _ _ (fun x hx y _ h=>qCB (xV.2 hx) h),List.length_map]
def uF (d:DfaV)(q:Nat):List Nat:=(List.range q).map fun i=>if d.final.getD i false=d.final.getD 0 false then 0 else 1
def fstC (d:DfaV)(q:Nat):Nat:=if (uF d q).all (· == 0) then 1 else 2
def fstF (d:DfaV)(n q:Nat):List Nat:=uF d q++List.replicate (n-q) 0
theorem kL {d:DfaV}{n q:Nat}(h:q<=n):(fstF d n q).length=n:=by simp[fstF,uF];omega
theorem qKF {d:DfaV}{n q:Nat}(h:q<n)(e:d.final.getD q false=d.final.getD 0 false):fstF d n (q+1)=fstF d n q/\fstC d (q+1)=fstC d q:=by
 have h1:uF d (q+1)=uF d q++[0]:=by
  simp only[uF,List.range_succ,List.map_append,List.map_cons,List.map_nil,if_pos e]
 constructor
 ·unfold fstF
  rw[h1,show n-q=(n-(q+1))+1 by omega,List.replicate_succ,List.append_assoc];rfl
 unfold fstC;rw[h1,List.all_append];simp
theorem qKG {d:DfaV}{n q:Nat}(h:q<n)(e:d.final.getD q false≠d.final.getD 0 false):fstF d n (q+1)=(fstF d n q).set q 1/\fstC d (q+1)=2:=by
 have h1:uF d (q+1)=uF d q++[1]:=by
  simp only[uF,List.range_succ,List.map_append,List.map_cons,List.map_nil,if_neg e]
 have hl:(uF d q).length=q:=by simp[uF]
 constructor
 ·unfold fstF
  rw[h1,List.set_append_right _ _ (by omega),hl,Nat.sub_self,show n-q=(n-(q+1))+1 by omega,List.replicate_succ,List.set_cons_zero,List.append_assoc];rfl
 unfold fstC;rw[h1,List.all_append];simp
theorem qKE {d:DfaV}{n k:Nat}(hd:VD d n k):uF d n=oZ d/\fstC d n=cls (oZ d):=by
 have hl:(uF d n).length=n:=by simp[uF]
 have hg:∀i,i<n->(uF d n).getD i 0=if d.final.getD i false=d.final.getD 0 false then 0 else 1:=fun i hi=>by
  rw[zN (by omega)];simp[uF]
 have h8:∀i j,i<n->j<n->((uF d n).getD i 0=(uF d n).getD j 0↔(oZ d).getD i 0=(oZ d).getD j 0):=fun i j hi hj=>by
  rw[hg i hi,hg j hj,pZ hd hi hj];cases d.final.getD i false<;>cases d.final.getD j false<;>cases d.final.getD 0 false<;>simp
 have H4:=pI d;have h9:=hd.n1
 have h6:Norm (uF d n):=by
  unfold Norm;have h0:(uF d n).getD 0 0=0:=by rw[hg 0 (by omega),if_pos rfl]
  refine List.ext_getElem (yW _) fun i h1 h2=>?_;have hi:i<n:=by omega
  rw[pJ h2]
  have key:∀m,0<m->m<=n->yO ((uF d n).take m)=if (∃j,j<m/\(uF d n).getD j 0=1) then [0,1] else [0]:=by
   intro m hm H7
   induction m with
   | zero=>omega
   | succ m ih =>
    have H0:m<(uF d n).length:=(by omega);rw[kO H0,<-zN (d:=0) H0];have h7:(uF d n).getD m 0=0\/(uF d n).getD m 0=1:=by rw[hg m (by omega)];split<;>simp
    by_cases hm0:m=0
    ·subst hm0
     rw[h0]
     have:¬∃j,j<0+1/\(uF d n).getD j 0=1:=by
      rintro ⟨j,hj,e⟩;have:j=0:=by omega
      subst this;omega
     rw[if_neg this];rfl
    rw[ih (by omega) (by omega)];by_cases hex:∃j,j<m/\(uF d n).getD j 0=1
    ·have h5:∃j,j<m+1/\(uF d n).getD j 0=1:=hex.imp fun j h=>⟨by omega,h.2⟩
     rw[if_pos hex,if_pos h5];rcases h7 with e|e<;>rw[e]<;>rfl
    rw[if_neg hex];rcases h7 with e|e
    ·have h5:¬∃j,j<m+1/\(uF d n).getD j 0=1:=by
      rintro ⟨j,hj,e2⟩;rcases Nat.lt_succ_iff_lt_or_eq.1 hj with hj|rfl
      ·exact hex ⟨j,hj,e2⟩
      ·omega
     rw[if_neg h5,e];rfl
    rw[if_pos ⟨m,by omega,e⟩,e];rfl
  have hk:=key n (by omega) (Nat.le_refl _);rw[show (uF d n).take n=uF d n by rw[List.take_of_length_le (by omega)]]at hk;rw[hk];have h7:(uF d n).getD i 0=0\/(uF d n).getD i 0=1:=by rw[hg i hi];split<;>simp
  rw[zN h2]at h7;rcases h7 with e|e
  ·rw[e];split<;>rfl
  rw[e,if_pos ⟨i,hi,by rw[zN h2,e]⟩];rfl
 have H1:uF d n=oZ d:=jF h6 (iI d) ⟨by rw[hl,H4,hd.hn],fun i j hi hj=>h8 i j (by omega) (by omega)⟩;refine⟨H1,?_⟩;rw[<-H1];unfold fstC;by_cases ha:(uF d n).all (· == 0)=true
 ·rw[if_pos ha]
  have:uF d n=List.replicate n 0:=by
   refine List.eq_replicate_iff.2 ⟨hl,fun x hx=>?_⟩;simpa using List.all_eq_true.1 ha x hx
  rw[this]
  have h1:(yO (List.replicate n 0)) ⊆ [0]:=fun x hx=>by
   have:=xV.1 hx;rw[List.mem_replicate]at this;simp[this.2]
  have h2:=(sO (List.replicate n 0)).length_le_of_subset h1;have h3:=kQ (p:=List.replicate n 0) (by simp;omega);unfold cls at h3⊢;simp at h2;omega
 rw[if_neg ha]
 have h1:yO (uF d n) ⊆ [0,1]:=fun x hx=>by
  obtain⟨i,_,rfl⟩:=List.mem_map.1 (xV.1 hx)
  split<;>simp
 have h2:=(sO (uF d n)).length_le_of_subset h1
 have h9:∃x∈uF d n,x≠0:=by
  apply Classical.byContradiction;intro H5
  exact ha (List.all_eq_true.2 fun x hx=>by
   have:x=0:=Classical.byContradiction fun h=>H5 ⟨x,hx,h⟩
   simp[this])
 obtain⟨x,hx,H3⟩:=h9
 have H2:x=1:=by
  obtain⟨i,_,rfl⟩:=List.mem_map.1 hx
  split at H3
  ·omega
  rename_i h;rw[if_neg h]
 have H6:0∈uF d n:=by
  rw[uF,List.mem_map];exact⟨0,List.mem_range.2 (by omega),if_pos rfl⟩
 have h3:[0,1] ⊆ yO (uF d n):=fun y hy=>by
  simp only[List.mem_cons,List.not_mem_nil,or_false]at hy;rcases hy with rfl|rfl
  ·exact xV.2 H6
  exact xV.2 (H2 ▸ hx)
 have h4:=(show [0,1].Nodup by decide).length_le_of_subset h3;unfold cls;simp at h2 h4;omega
theorem qKU {d:DfaV}{n k:Nat}(hd:VD d n k)(m:Nat):numb (sigL d k (xI d k m))=xI d k (m+1):=qIB hd (by rw[xH,hd.hn]) (tL d k m)
theorem qHB {d:DfaV}{n k:Nat}(hd:VD d n k){m:Nat}(hm:m<=n)(h:cls (xI d k (m+1))=cls (xI d k m)):xI d k (m+1)=yI d k:=by
 have e:tF d (xI d k m) k=xI d k m:=Classical.byContradiction fun hne=>by
  have:=oV hd (by rw[xH,hd.hn]) (tL d k m) hne;rw[xI]at h;omega
 rw[pQ (by rw[hd.hn];exact hm) e,xI,e]
theorem qHC {d:DfaV}{n k:Nat}(hd:VD d n k){m:Nat}(h:cls (xI d k (m+1))≠cls (xI d k m)):cls (xI d k m)<cls (xI d k (m+1)):=by
 have e:tF d (xI d k m) k≠xI d k m:=fun e=>h (by rw[xI,e]);exact oV hd (by rw[xH,hd.hn]) (tL d k m) e
theorem qOC {d:DfaV}{n k:Nat}(hd:VD d n k)(m:Nat):cls (xI d k m)<=n:=by
 have:=cls_le (xI d k m)
 rwa [xH,hd.hn]at this
section
variable {d:DfaV} {n k:Nat}
structure SeqI (d:DfaV)(n k:Nat)(p:List Nat):Prop where
 len:p.length=n
 norm:Norm p
 fin:∀i j,i<n->j<n->p.getD i 0=p.getD j 0->d.final.getD i false=d.final.getD j false
 co:∀i j,i<n->j<n->(yI d k).getD i 0=(yI d k).getD j 0->p.getD i 0=p.getD j 0
theorem rH (hd:VD d n k):(yI d k).length=n:=by rw[wU,hd.hn]
theorem aW (hd:VD d n k){i j:Nat}(hi:i<n)(hj:j<n)(h:(yI d k).getD i 0=(yI d k).getD j 0):∀a,a<k->(yI d k).getD (nx d i a) 0=(yI d k).getD (nx d j a) 0:=by
 have h0:∀c∈yI d k,c<n:=by have:=pP (uD d k);rwa [rH hd]at this
 have h1:=rB hd (rH hd) h0 hi hj k (Nat.le_refl _);rw[mW hd]at h1;exact(h1.1 h).2
theorem eZ (hd:VD d n k){i j:Nat}(hi:i<n)(hj:j<n)(h:(yI d k).getD i 0=(yI d k).getD j 0):d.final.getD i false=d.final.getD j false:=kR hd _ hi hj h
theorem SeqI.start (hd:VD d n k):SeqI d n k (oZ d) :=
 ⟨by rw[pI,hd.hn],iI d,fun i j hi hj h=>(pZ hd hi hj).1 h,fun i j hi hj h=>(pZ hd hi hj).2 (eZ hd hi hj h)⟩
def tV (d:DfaV)(p:List Nat)(a:Nat):List Nat:=gQ p (rJ d p a)
theorem qT (hd:VD d n k){p:List Nat}(hp:p.length=n)(hN:Norm p){a i j:Nat}(hi:i<n)(hj:j<n):(tV d p a).getD i 0=(tV d p a).getD j 0↔p.getD i 0=p.getD j 0/\p.getD (nx d i a) 0=p.getD (nx d j a) 0:=by
 have h1:∀c∈p,c<n:=by have:=pP hN;rwa [hp]at this
 have h0:=hd.n1;rw[tV,qCM (by rw[xS]) (fun c hc=>?_) (by omega) (by omega),oH (by omega),oH (by omega)];rw[hp];simp only[rJ,List.mem_map,List.mem_range]at hc;obtain⟨q,hq,rfl⟩:=hc;exact sM h1 (by omega)
theorem rT (d:DfaV)(p:List Nat)(a:Nat):(tV d p a).length=p.length:=by rw[tV,gI (xS d p a)]
theorem SeqI.step (hd:VD d n k){p:List Nat}(h:SeqI d n k p){a:Nat}(ha:a<k):SeqI d n k (tV d p a) :=
 ⟨by rw[rT,h.len],mM _,fun i j hi hj e=>h.fin i j hi hj ((qT hd h.len h.norm hi hj).1 e).1,fun i j hi hj e=>(qT hd h.len h.norm hi hj).2 ⟨h.co i j hi hj e,h.co _ _ (qV hd hi ha) (qV hd hj ha) (aW hd hi hj e a ha)⟩⟩
theorem fP (hd:VD d n k){p:List Nat}(hp:p.length=n)(hN:Norm p)(a:Nat):cls p<=cls (tV d p a)/\(cls p=cls (tV d p a)->tV d p a=p):=by
 obtain⟨h1,h2⟩:=aU (p:=p) (q:=tV d p a) (rT d p a) (fun i j hi hj e=>((qT hd hp hN (by omega) (by omega)).1 e).1);refine⟨h1,fun e=>jF (mM _) hN ⟨rT d p a,fun i j hi hj=>?_⟩⟩;rw[rT]at hi hj;exact⟨fun e1=>((qT hd hp hN (by omega) (by omega)).1 e1).1,fun e1=>h2 e i j hi hj e1⟩
def kH (d:DfaV)(p:List Nat):Nat->List Nat
 | 0=>p
 | a+1=>tV d (kH d p a) a
theorem SeqI.to (hd:VD d n k){p:List Nat}(h:SeqI d n k p):∀a,a<=k->SeqI d n k (kH d p a)
 | 0,_=>h
 | a+1,ha=>(SeqI.to hd h a (by omega)).step hd (by omega)
theorem fO (hd:VD d n k){p:List Nat}(h:SeqI d n k p):∀a,a<=k->cls p<=cls (kH d p a)
 | 0,_=>Nat.le_refl _
 | a+1,ha=>Nat.le_trans (fO hd h a (by omega)) (fP hd (h.to hd a (by omega)).len (h.to hd a (by omega)).norm a).1
theorem dL (hd:VD d n k){p:List Nat}(h:SeqI d n k p):∀a,a<=k->cls (kH d p a)=cls p->kH d p a=p/\∀b,b<a->tV d p b=p
 | 0,_,_=>⟨rfl,fun b hb=>by omega⟩
 | a+1,ha,e=>by
  have hI:=h.to hd a (by omega)
  have h1:=fO hd h a (by omega)
  have h2:=fP hd hI.len hI.norm a
  have e2:cls (kH d p (a+1))=cls (tV d (kH d p a) a):=rfl
  obtain⟨h3,h4⟩:=dL hd h a (by omega) (by omega)
  have h5:=h2.2 (by omega)
  rw[h3]at h5
  refine⟨by show tV d (kH d p a) a=p;rw[h3,h5],fun b hb=>?_⟩
  rcases Nat.lt_succ_iff_lt_or_eq.1 hb with hb|rfl
  ·exact h4 b hb
  ·exact h5
theorem SeqI.stable (hd:VD d n k){p:List Nat}(h:SeqI d n k p)(hs:∀a,a<k->tV d p a=p):p=yI d k:=by
 have h0:∀i j,i<n->j<n->p.getD i 0=p.getD j 0->∀a,a<k->p.getD (nx d i a) 0=p.getD (nx d j a) 0:=fun i j hi hj e a ha=>by
  have:=qT hd h.len h.norm (a:=a) hi hj;rw[hs a ha]at this;exact(this.1 e).2
 have key:∀m i j,i<n->j<n->p.getD i 0=p.getD j 0->(xI d k m).getD i 0=(xI d k m).getD j 0:=by
  intro m
  induction m with
  | zero=>exact fun i j hi hj e=>(pZ hd hi hj).2 (h.fin i j hi hj e)
  | succ m ih =>
   intro i j hi hj e;exact(rB hd (by rw[xH,hd.hn]) (by rw[<-hd.hn];exact aV d k m) hi hj k (Nat.le_refl _)).2 ⟨ih i j hi hj e,fun a ha=>ih _ _ (qV hd hi ha) (qV hd hj ha) (h0 i j hi hj e a ha)⟩
 refine jF h.norm (uD d k) ⟨by rw[h.len,rH hd],fun i j hi hj=>?_⟩;rw[h.len]at hi hj;exact⟨fun e=>key _ i j hi hj e,fun e=>h.co i j hi hj e⟩
theorem qNA (hd:VD d n k)(hr:∀q,q<n->∃w,tP k w/\run d (st0 d) w=q):minN d k=cls (yI d k):=by
 have hq:=lM hd;obtain⟨hA,h6⟩:=wG hq;have hl:=rH hd;have hN:=uD d k;refine Nat.le_antisymm h6 ?_
 have h7:∀(w:List Nat) (q:Nat),q∈yH (uI d (yI d k)) k->tP k w->run (uI d (yI d k)) q w∈yH (uI d (yI d k)) k:=by
  intro w
  induction w with
  | nil=>exact fun q hq _=>hq
  | cons a w ih =>
   intro q h5 hw;obtain⟨j,hj,e⟩:=List.getElem_of_mem h5;have h1:=hA.cl j a (by omega) hj (hw a (by simp));rw[zN hj,e]at h1;exact ih _ h1 (fun b hb=>hw b (List.mem_cons_of_mem _ hb))
 have h0:st0 (uI d (yI d k))∈yH (uI d (yI d k)) k:=by
  rw[<-hA.hd.2,zN hA.hd.1];exact List.getElem_mem _
 have h4:∀c,c<cls (yI d k)->c∈yH (uI d (yI d k)) k:=fun c hc=>by
  obtain⟨h1,h2⟩:=pH hN hc;rw[hl]at h2;obtain⟨w,hw,e⟩:=hr _ h2;have h3:=h7 w _ h0 hw;rw[gW,bW hd hl hN (mW hd) w (mJ hd) hw,e,h1]at h3;exact h3
 have:=(List.nodup_range (n:=cls (yI d k))).length_le_of_subset (fun c hc=>h4 c (List.mem_range.1 hc));simpa [minN] using this
theorem SeqI.cls_le (hd:VD d n k){p:List Nat}(h:SeqI d n k p):cls p<=cls (yI d k) :=
 (aU (p:=p) (q:=yI d k) (by rw[h.len,rH hd]) (fun i j hi hj e=>h.co i j (by rw[<-h.len];exact hi) (by rw[<-h.len];exact hj) e)).1
theorem minQ (hd:VD d n k):minD (uI d (yI d k)) k=minD d k:=by
 refine qBO (lM hd) hd fun w hw=>?_;rw[gW,jD hd (mJ hd) hw]
end
open Go.Maps Go.RowKit
def zl (l:List Nat):List Int:=l.map fun(x:Nat)=>(x:Int)
theorem qAB {l : List Nat}{x : Nat}: ((x : Nat) : Int) ∈ zl l ↔ x ∈ l := by
  simp only [zl, List.mem_map]
  exact ⟨fun ⟨y, hy, e⟩ => by have : y = x := by omega
                              exact this ▸ hy, fun h => ⟨x, h, rfl⟩⟩
theorem qRG {l:List Nat}{x:Nat}(h:x∈l):(zl l).idxOf ((x:Nat):Int)=l.idxOf x:=aQ (fun(x:Nat)=>(x:Int)) l x h (fun y _ e=>by omega)
theorem qPA (l:List Nat):(zl l).length=l.length:=by simp[zl]
theorem qPO (l:List Nat)(x:Nat):zl (l++[x])=zl l++[(x:Int)]:=by simp[zl]
def NF (o:Nat)(sa:Option Addr)(mv:Option Nat)(k:Nat):Prop:=k=o\/(Value.slice sa 0 0).ownBlock=some k\/mv=some k
structure NumSt (base:Nat)(W:World)(o:Nat)(sa:Option Addr)(sc:Nat)(mv:Option Nat)(l:List Nat):Prop where
 box:W.heap[o]?=some (.cells #[.slice sa l.length sc,.map mv] 141 (0,0))
 own:W.ownsRow base 3 1 (.slice sa l.length sc) l.length (nats l)
 map:(mv=none/\l=[])\/∃mb,mv=some mb/\base<=mb/\mb≠o/\(Value.slice sa 0 0).ownBlock≠some mb/\mb<W.heap.size/\rS W mb l.length (zl l)
 lo:base<=o
theorem NumSt.ge {base:Nat}{W:World}{o:Nat}{sa:Option Addr}{sc:Nat}{mv:Option Nat}{l:List Nat}(h:NumSt base W o sa sc mv l):∀k,NF o sa mv k->base<=k/\k<W.heap.size:=by
 rintro k (rfl|hk|hk)
 ·exact⟨h.lo,zQ h.box⟩
 ·rw[<-yG sa l.length sc]at hk;exact h.own.lt k hk
 rcases h.map with ⟨e,_⟩|⟨mb,e,h1,_,_,h2,_⟩
 ·rw[e]at hk;cases hk
 rw[e]at hk;have:=Oj hk;subst this;exact⟨h1,h2⟩
theorem NumSt.kept {base:Nat}{W W':World}{o:Nat}{sa:Option Addr}{sc:Nat}{mv:Option Nat}{l:List Nat}{row:Option Nat}(h:NumSt base W o sa sc mv l)(hg:W.grownBy W' row)(hr:∀k,row=some k->¬NF o sa mv k):NumSt base W' o sa sc mv l where
 box:=zB h.box hg (fun e=>hr o e (.inl rfl))
 own:=h.own.kept hg (by
  rcases hv:(Value.slice sa l.length sc).ownBlock with _|k
  ·exact .inl rfl
  ·exact .inr fun e=>hr k e.symm (.inr (.inl (by rw[yG]at hv;exact hv))))
 map:=by
  rcases h.map with h|⟨mb,e,h1,h2,h3,h4,h5⟩
  ·exact .inl h
  ·exact .inr ⟨mb,e,h1,h2,h3,Nat.lt_of_lt_of_le h4 hg.size,h5.kept hg (fun e2=>hr mb e2 (.inr (.inr e)))⟩
 lo:=h.lo
def qLG (base:Nat)(W:World)(o:Nat)(sa:Option Addr)(mv:Option Nat)(l:List Nat)(x:Nat)(e:Ending)(W':World):Prop :=
 ∃sa' sc' mv',e=.returned (.int .i64 (((wK l x).idxOf x:Nat):Int))/\NumSt base W' o sa' sc' mv' (wK l x)/\GrownBut W W' (NF o sa mv)/\∀k,NF o sa' mv' k->NF o sa mv k\/W.heap.size<=k
theorem dC {l:List Nat}{x:Nat}(h:x ∉ l):(wK l x).idxOf x=l.length:=by
 rw[vK h,List.idxOf_append,if_neg h];simp
theorem tI {w:World}{p e:Nat}{x0 x1:Value}(h:w.heap[p]?=some (.cells #[x0,x1] e (0,0))):w.cell? ⟨p,0,none⟩=some x0/\w.cell? ⟨p,1,none⟩=some x1:=by
 have c0:=zG h 0;have c1:=zG h 1;exact⟨by simpa using c0,by simpa using c1⟩
theorem qBI {base:Nat}{W w2 w3:World}{o mb:Nat}{sa a9:Option Addr}{sc a8:Nat}{mv:Option Nat}{l:List Nat}{x:Nat}(h0:base<=o)(hx:x ∉ l)(b9:w2.heap[o]?=some (.cells #[.slice sa l.length sc,.map (some mb)] 141 (0,0)))(a1:mb≠o)(a5:base<=mb)(a4:(Value.slice sa 0 0).ownBlock≠some mb)(a2:rS w2 mb (l.length+1) (zl l++[(x:Int)]))(a0:(Value.slice sa 0 0).ownBlock≠some o)(a7:w3.ownsRow base 3 1 (.slice a9 (l.length+1) a8) (l.length+1) (nats l++[.int .i64 (x:Int)]))(hg:w2.grownBy w3 (Value.slice sa l.length sc).ownBlock)(a3:jY w2 w3 (.slice sa l.length sc) (.slice a9 (l.length+1) a8))(hW:GrownBut W w2 (NF o sa mv))(a6:mv=some mb\/W.heap.size<=mb):qLG base W o sa mv l x (.returned (.int .i64 ((l.length:Nat):Int))) (w3.setCell ⟨o,0,none⟩ (.slice a9 (l.length+1) a8)):=by
 have h4:=zB b9 hg (fun e=>a0 (by rw[yG]at e;exact e));have hs:=heap_setCell_same w3 o 0 _ _ (.slice a9 (l.length+1) a8) h4;have h2:=zF w3 ⟨o,0,none⟩ (.slice a9 (l.length+1) a8);have h5:=a2.lt;have hz:=hg.size;have h6:=h2.size;have h1:(wK l x).length=l.length+1:=by rw[vK hx];simp
 have h3:(Value.slice a9 0 0).ownBlock≠some mb:=by
  intro e;rw[<-yG a9 (l.length+1) a8]at e;rcases a3 with h|⟨_,h⟩
  ·rw[h,yG]at e;exact a4 e
  have:=h mb e;omega
 refine⟨a9,a8,some mb,by rw[dC hx],⟨?_,?_,?_,h0⟩,?_,fun k hk=>?_⟩
 ·rw[h1,hs];simp
 ·rw[h1,vK hx,qB]
  exact a7.kept h2 (.inr (zV a7 h4 (by decide)))
 ·refine .inr ⟨mb,rfl,a5,a1,h3,by omega,?_⟩
  rw[h1,vK hx,qPO];refine(a2.kept hg (fun e=>a4 (by rw[yG]at e;exact e))).kept h2 (fun e=>a1 (Oj e).symm)
 ·refine(hW.step hg fun k hk=>?_).step h2 fun k hk=>?_
  ·rw[yG]at hk;exact .inl (.inr (.inl hk))
  exact .inl (.inl (Oj hk).symm)
 rcases hk with rfl|hk|hk
 ·exact .inl (.inl rfl)
 ·rw[<-yG a9 (l.length+1) a8]at hk
  rcases a3 with h|⟨_,h⟩
  ·rw[h,yG]at hk;exact .inl (.inr (.inl hk))
  exact .inr (Nat.le_trans hW.size (h k hk))
 have:=Oj hk;subst this;rcases a6 with h|h
 ·exact .inl (.inr (.inr h))
 exact .inr h
theorem qBJ (base:Nat)(W:World)(o:Nat)(sa:Option Addr)(sc:Nat)(mv:Option Nat)(l:List Nat)(x:Nat)(h:NumSt base W o sa sc mv l)(hb:base<=W.heap.size)(hl:l.length<=1073741824)(hx:x<4611686018427387904):Calls Try.prog 107 #[.pointer (some ⟨o,0,none⟩),.int .i64 (x:Int)] W (qLG base W o sa mv l x):=by
 have d3:=@run_makeMap Try.prog;have h8:Mid (x:Int):=⟨by omega,by omega⟩;have c8:∀W,(binOp .eql 100 (.map none) (.map none)).run Try.prog W=.ok (.bool true) W:=fun W=>run_eql_map_nil W _ _ _ none rQ;have c7:∀W mb,(binOp .eql 100 (.map (some mb)) (.map none)).run Try.prog W=.ok (.bool false) W:=fun W mb=>run_eql_map_nil W _ _ _ (some mb) rQ;obtain⟨c0,c1⟩:=tI h.box;have f0:=zA h.box 0;have f1:=zA h.box 1
 have a7:(Value.slice sa 0 0).ownBlock≠some o:=by
  intro e;rw[<-yG sa l.length sc]at e;exact zV h.own h.box (by decide) e
 obtain⟨H,H3,h3⟩:=K3 h a7 h8;clear a7 h8;rcases h.map with ⟨rfl,rfl⟩|⟨mb,rfl,hmb0,hmb,hsm,hml,hmp⟩
 ·have h9:(Instr.lookup 100 (.map none) (.int .i64 (x:Int)) true).run Try.prog W=.ok (.tuple #[.int .i64 0,.bool false]) W:=Maps.look_nil true aO rQ (gT W) (qDK h3.out)
  obtain⟨w1,h7⟩:=Nm (W.setCell ⟨o,1,none⟩ (.map (some W.heap.size)));have H6:=zF W ⟨o,1,none⟩ (.map (some W.heap.size))
  have a8:w1.heap[o]?=some (.cells #[.slice sa ([]:List Nat).length sc,.map (some W.heap.size)] 141 (0,0)):=by
   rw[h7,heap_setCell_same W o 1 _ _ _ h.box];simp
  have a6:w1.heap.size=W.heap.size:=by rw[h7];simp[World.setCell]
  rw[<-h7]at H6;obtain⟨ws,H7⟩:=Nm (w1.alloc (.map #[] 0));have H0:=Ga w1 (.map #[] 0) none;have H4:=Kh (rS.made w1);rw[<-H7]at H0 H4;rw[a6]at H4;have d4:=zQ h.box;have a5:=Kh (zB a8 H0);have b7:=Kh H7;have b8:=Kh h7;have c2:Hid (ws.ownsRow base 3 1 (.slice sa ([]:List Nat).length sc) ([]:List Nat).length (nats [])):=Kh (yB (h.own.kept H6 (.inr (by rw[yG];exact H3.out))) H0);have c3:Hid (GrownBut W ws (NF o sa none)):=Kh (((GrownBut.refl W _).step H6 (fun k hk=>.inl (.inl (Oj hk).symm))).step H0 (by simp));clear h a8 h7 H6 H7 H0 a6
  have h6:Hid ((Value.slice sa 0 0).ownBlock≠some W.heap.size):=Kh (fun e=>by
   rw[<-yG sa ([]:List Nat).length sc]at e
   have:=(H.out.own.lt _ e).2;omega)
  have d2:W.heap.size≠o:=by omega
  obtain⟨M,hM⟩:=Nm W.heap.size;have c6:=Kh hM;rw[<-hM]at H4 h6 a5;have a9:M≠o:=by omega
  have b5:base<=M:=by omega
  have b6:W.heap.size<=M:=by omega
  clear hM;go_enter Try.func107,Try.ntmps107;go_upto_region 5 with fail;rw[<-b8.out,<-b7.out,<-c6.out];clear c0 c1 f0 f1 h9;obtain⟨c0,c1⟩:=tI a5.out;have c9:=H4.out.lt;go_wp2_with (first|(at_mapUpdate;refine lH rfl _ _ _ rfl M 0 [] x rfl rfl rfl H4.out (by unfold maxLen;omega) h3.out (by simp) (by simp) ?_;intro w2 h0 h2;(have H9:=Kh h0);(have a4:=Kh h2);(have h4:=zB a5.out h2 (by simp;exact a9));(have H5:=Kh h4);(obtain⟨d0,d1⟩:=tI h4);(have e0:=zA h4 0);(have H8:=Kh (c2.out.kept h2 (.inr (by rw[yG];exact h6.out))));(have b4:=h2.size);clear h0 h4 h2)|(at_builtin;refine jV rfl _ _ _ rfl yJ base (.slice sa ([]:List Nat).length sc) ([]:List Nat).length (nats []) rfl H8.out (.int .i64 (x:Int)) rfl rfl ?a1 ?a2 ?a3 ?_;(case a1=>(unfold maxLen;simp));(case a2=>simp);(case a3=>omega);intro sa3 sc3 w3 h1 H1 b3 h5;(have H2:=zB H5.out H1 (by rw[yG];exact H3.out));(obtain⟨b0,b1⟩:=tI H2);(have e3:=zA H2 0))|fail);go_ret;exact qBI (l:=[]) H.out.lo (by simp) H5.out a9 b5 h6.out H9.out H3.out h1 H1 h5 (c3.out.step a4.out (fun k hk=>.inr (by have:=Oj hk;omega))) (.inr b6)
 clear h;by_cases hin:x∈l
 ·have h9:=hmp.lookup h3.out
  rw[if_pos (qAB.2 hin),decide_eq_true (qAB.2 hin),qRG hin]at h9;have a0:=Kh hin;clear hin hmp;go_enter Try.func107,Try.ntmps107;go_wp2;go_ret;have e:=uZ a0.out;exact⟨sa,sc,some mb,yX (by rw[e]),by rw[e];exact H.out,GrownBut.refl _ _,fun k hk=>.inl hk⟩
 have h9:=hmp.lookup h3.out;rw[if_neg (fun hh=>hin (qAB.1 hh)),decide_eq_false (fun hh=>hin (qAB.1 hh))]at h9;have a0:=Kh hin;have c5:=Kh hmp;have c4:Hid ((x:Int) ∉ zl l):=Kh (fun hh=>hin (qAB.1 hh));have b2:=qPA l;have h6:=Kh hsm;clear hin hmp hsm;have b9:=Kh H.out.own;go_enter Try.func107,Try.ntmps107;go_wp2_with (first|(at_mapUpdate;refine lH rfl _ _ _ rfl mb l.length (zl l) x rfl rfl ?q1 c5.out (by unfold maxLen;omega) h3.out c4.out (by omega) ?_;(case q1=>(rw[b2];rfl));intro w2 h0 h2;(have H9:=Kh h0);(have a4:=Kh h2);(have h4:=zB H.out.box h2 (by simp;exact hmb));(have H5:=Kh h4);(obtain⟨d0,d1⟩:=tI h4);(have e0:=zA h4 0);(have H8:=Kh (b9.out.kept h2 (.inr (by rw[yG];exact h6.out))));(have b4:=h2.size);clear h0 h4 h2)|(at_builtin;refine jV rfl _ _ _ rfl yJ base (.slice sa l.length sc) l.length (nats l) rfl H8.out (.int .i64 (x:Int)) rfl rfl ?a1 ?a2 ?a3 ?_;(case a1=>(unfold maxLen;omega));(case a2=>omega);(case a3=>omega);intro sa3 sc3 w3 h1 H1 b3 h5;(have H2:=zB H5.out H1 (by rw[yG];exact H3.out));(obtain⟨b0,b1⟩:=tI H2);(have e3:=zA H2 0))|fail);go_ret;exact qBI H.out.lo a0.out H5.out hmb hmb0 h6.out H9.out H3.out h1 H1 h5 ((GrownBut.refl W _).step a4.out (fun k hk=>.inl (.inr (.inr hk)))) (.inl rfl)
theorem rS.obj {w:World}{b n:Nat}{l:List Int}(h:rS w b n l):∃es clock,w.heap[b]?=some (.map es clock):=by
 obtain⟨D,⟨es,clock,hb,_⟩,_⟩:=h;exact⟨es,clock,hb⟩
theorem NumSt.off {base:Nat}{W:World}{o:Nat}{sa:Option Addr}{sc:Nat}{mv:Option Nat}{l:List Nat}(h:NumSt base W o sa sc mv l){k e:Nat}{c:Array Value}{m:Nat×Nat}(hk:W.heap[k]?=some (.cells c e m))(h1:e≠3)(h2:e≠141):¬NF o sa mv k:=by
 rintro (rfl|hn|hn)
 ·rw[h.box]at hk
  simp only[Option.some.injEq,Obj.cells.injEq]at hk;exact h2 hk.2.1.symm
 ·rw[<-yG sa l.length sc]at hn
  exact zV h.own hk (fun e=>h1 e.symm) hn
 rcases h.map with ⟨e,_⟩|⟨mb,e,_,_,_,_,hm⟩
 ·rw[e]at hn;cases hn
 rw[e]at hn;have:=Oj hn;subst this;obtain⟨es,cl,hm⟩:=hm.obj;rw[hm]at hk;simp at hk
theorem NumSt.offOwn {base:Nat}{W:World}{o:Nat}{sa:Option Addr}{sc:Nat}{mv:Option Nat}{l:List Nat}(h:NumSt base W o sa sc mv l){b e n sz:Nat}{v:Value}{xs:List Value}(a9:W.ownsRow b e sz v n xs)(h1:e≠3)(h2:e≠141):∀k,v.ownBlock=some k->¬NF o sa mv k:=fun k hk=>by
 rcases a9.2 with ⟨rfl,_⟩|⟨g,cap,cur,rfl,_,hg,_⟩
 ·simp[Value.ownBlock]at hk
 ·have:g=k:=by simpa [Value.ownBlock] using hk
  subst this
  exact h.off hg h1 h2
theorem xU.keptT {α:Type}{X:Nat->Prop}{e:TypeId}{f:α->List Value}{w w':World}{hs:List Value}{ts:List α}{row:Option Nat}(h:xU X e f w hs ts)(hg:w.grownBy w' row)(hr:∀k,row=some k->yZ w e k):xU X e f w' hs ts :=
 ⟨h.1,fun i h1 h2=>⟨((h.2 i h1 h2).1.kept hg (fun k hk=>.inr (hr k hk))).mono hg.size,(h.2 i h1 h2).2⟩⟩
theorem xX.but {X F:Nat->Prop}{w w':World}(a9:∀k,X k->k<w.heap.size)(hg:GrownBut w w' F)(hF:∀k,F k->¬X k):xX X w w':=fun k hk=>hg.block k (a9 k hk) (fun hf=>hF k hf hk)
theorem fX {w w':World}{base e n sz:Nat}{v:Value}{xs:List Value}{F:Nat->Prop}(h:w.ownsRow base e sz v n xs)(hg:GrownBut w w' F)(hF:∀k,v.ownBlock=some k->¬F k):w'.ownsRow base e sz v n xs:=by
 refine⟨h.1,?_⟩;rcases id h.2 with h2|⟨g,cap,cur,hv,hb,hgc,h3⟩
 ·exact .inl h2
 exact .inr ⟨g,cap,cur,hv,hb,hg.heap hgc (hF g (by rw[hv];rfl)),h3⟩
structure ExSt (B:Nat)(W0 W:World)(oN o2:Nat)(X Y:Nat->Prop)(k:Nat)(l:List Nat)(fs:List Bool)(t:List (List Int))(hs:List Value)(sa:Option Addr)(sc:Nat)(mv:Option Nat)(sf:Option Addr)(cf:Nat)(sn:Option Addr)(cn:Nat):Prop where
 num:NumSt B W oN sa sc mv l
 sep:∀j,NF oN sa mv j->¬Y j
 XY:∀j,X j->Y j
 lt:∀j,Y j->j<W.heap.size
 box:W.heap[o2]?=some (.cells #[.int .i64 (k:Int),.int .i64 0,.slice sf fs.length cf,.slice sn t.length cn] 37 (0,0))
 ownF:W.ownsRow o2 4 1 (.slice sf fs.length cf) fs.length (bls fs)
 ownN:W.ownsRow o2 22 1 (.slice sn t.length cn) t.length hs
 rows:xU X 3 ints W hs t
 lo:W0.heap.size<=o2
 loB:W0.heap.size<=B/\B<=W.heap.size
 grown:W0.grownBy W none
section
variable {B:Nat} {W0 W W':World} {oN o2 k:Nat} {X Y:Nat->Prop} {l:List Nat} {fs:List Bool} {t:List (List Int)} {hs:List Value} {sa:Option Addr} {sc:Nat} {mv:Option Nat} {sf:Option Addr} {cf:Nat} {sn:Option Addr} {cn:Nat}
theorem ExSt.grow (h:ExSt B W0 W oN o2 X Y k l fs t hs sa sc mv sf cf sn cn)(hg:W.grownBy W' none):ExSt B W0 W' oN o2 X Y k l fs t hs sa sc mv sf cf sn cn where
 num:=h.num.kept hg (by simp)
 sep:=h.sep
 XY:=h.XY
 lt:=fun j hj=>Nat.lt_of_lt_of_le (h.lt j hj) hg.size
 box:=zB h.box hg
 ownF:=yB h.ownF hg
 ownN:=yB h.ownN hg
 rows:=h.rows.keptT hg (by simp)
 lo:=h.lo
 loB:=⟨h.loB.1,Nat.le_trans h.loB.2 hg.size⟩
 grown:=zC h.grown hg
theorem ExSt.fresh (h:ExSt B W0 W oN o2 X Y k l fs t hs sa sc mv sf cf sn cn)(hg:W.grownBy W' none){g:Nat}(h1:W.heap.size<=g)(h2:g<W'.heap.size):ExSt B W0 W' oN o2 X (fun j=>Y j\/j=g) k l fs t hs sa sc mv sf cf sn cn where
 num:=h.num.kept hg (by simp)
 sep:=fun j hj hy=>by
  rcases hy with hy|hy
  ·exact h.sep j hj hy
  ·have:=(h.num.ge j hj).2;omega
 XY:=fun j hj=>.inl (h.XY j hj)
 lt:=fun j hj=>by
  rcases hj with hj|hj
  ·exact Nat.lt_of_lt_of_le (h.lt j hj) hg.size
  ·omega
 box:=zB h.box hg
 ownF:=yB h.ownF hg
 ownN:=yB h.ownN hg
 rows:=h.rows.keptT hg (by simp)
 lo:=h.lo
 loB:=⟨h.loB.1,Nat.le_trans h.loB.2 hg.size⟩
 grown:=zC h.grown hg
theorem ExSt.num_step (h:ExSt B W0 W oN o2 X Y k l fs t hs sa sc mv sf cf sn cn){l':List Nat}{a9:Option Addr}{a7:Nat}{a8:Option Nat}(hn:NumSt B W' oN a9 a7 a8 l')(hg:GrownBut W W' (NF oN sa mv))(hm:∀k,NF oN a9 a8 k->NF oN sa mv k\/W.heap.size<=k):ExSt B W0 W' oN o2 X Y k l' fs t hs a9 a7 a8 sf cf sn cn where
 num:=hn
 sep:=fun j hj hy=>by
  rcases hm j hj with h1|h1
  ·exact h.sep j h1 hy
  ·have:=h.lt j hy;omega
 XY:=h.XY
 lt:=fun j hj=>Nat.lt_of_lt_of_le (h.lt j hj) hg.size
 box:=hg.heap h.box (h.num.off h.box (by decide) (by decide))
 ownF:=fX h.ownF hg (h.num.offOwn h.ownF (by decide) (by decide))
 ownN:=fX h.ownN hg (h.num.offOwn h.ownN (by decide) (by decide))
 rows:=h.rows.kept (xX.but (fun k hk=>h.lt k (h.XY k hk)) hg (fun k hf hx=>h.sep k hf (h.XY k hx))) hg.size
 lo:=h.lo
 loB:=⟨h.loB.1,Nat.le_trans h.loB.2 hg.size⟩
 grown:=hg.grown h.grown (fun k hk=>.inr (Nat.le_trans h.loB.1 (h.num.ge k hk).1))
theorem ExSt.put (h:ExSt B W0 W oN o2 X Y k l fs t hs sa sc mv sf cf sn cn){g:Nat}{c:Array Value}{m:Nat×Nat}(hg:W.grownBy W' (some g))(hc:W.heap[g]?=some (.cells c 3 m))(hY:Y g)(hX:¬X g)(h0:W0.heap.size<=g):ExSt B W0 W' oN o2 X Y k l fs t hs sa sc mv sf cf sn cn where
 num:=h.num.kept hg (fun j e hf=>by have:=Oj e;subst this;exact h.sep _ hf hY)
 sep:=h.sep
 XY:=h.XY
 lt:=fun j hj=>Nat.lt_of_lt_of_le (h.lt j hj) hg.size
 box:=zB h.box hg (fun e=>by
  have:=Oj e
  subst this
  rw[h.box]at hc
  simp only[Option.some.injEq,Obj.cells.injEq]at hc
  exact absurd hc.2.1 (by decide))
 ownF:=h.ownF.kept hg (.inr (zV h.ownF hc (by decide)))
 ownN:=h.ownN.kept hg (.inr (zV h.ownN hc (by decide)))
 rows:=h.rows.kept (fun j hj=>hg.block j (h.lt j (h.XY j hj)) (fun e=>by have:=Oj e;subst this;exact hX hj)) hg.size
 lo:=h.lo
 loB:=⟨h.loB.1,Nat.le_trans h.loB.2 hg.size⟩
 grown:=zC h.grown hg (fun j e=>by have:=Oj e;omega)
theorem ExSt.pushN (h:ExSt B W0 W oN o2 X Y k l fs t hs sa sc mv sf cf sn cn){m:Nat}(hm:t.length=m){rv:Value}{row:List Int}{a9:Option Addr}{a8:Nat}(ho:W'.ownsRow o2 22 1 (.slice a9 (m+1) a8) (m+1) (hs++[rv]))(hg:W.grownBy W' (Value.slice sn m cn).ownBlock)(a7:RowX (fun j=>X j\/Y j) 3 W rv (ints row)){W2:World}(a6:W2=W'.setCell ⟨o2,3,none⟩ (.slice a9 (m+1) a8)):ExSt B W0 W2 oN o2 Y Y k l fs (t++[row]) (hs++[rv]) sa sc mv sf cf a9 a8:=by
 subst hm;have hb:=zB h.box hg (zV h.ownN h.box (by decide));have h1:=heap_setCell_same W' o2 3 _ _ (.slice a9 (t.length+1) a8) hb;have g2:=zF W' ⟨o2,3,none⟩ (.slice a9 (t.length+1) a8);rw[<-a6]at h1 g2;have h0:=h.num.offOwn h.ownN (by decide) (by decide);have h2:=h.num.kept hg (fun j e=>h0 j e)
 have h3:=h.ownF.kept hg (by
  rcases hv:(Value.slice sf fs.length cf).ownBlock with _|j
  ·exact .inl rfl
  refine .inr fun e=>?_;obtain⟨cu,e',mm,hh,h7⟩:=vO (e':=22) h.ownF (by decide) j hv
  exact zV h.ownN hh (fun e2=>h7 e2.symm) e.symm)
 have h5:xU Y 3 ints W (hs++[rv]) (t++[row]):=(h.rows.mono h.XY).snoc (a7.mono (fun j hj=>hj.elim (h.XY j) id));have h4:=h5.keptT hg (fun j e=>vO h.ownN (by decide) j e);have h6:yZ W' 3 o2:=⟨_,_,_,hb,by decide⟩;have hz:=hg.size;have h8:=g2.size
 exact⟨h2.kept g2 (fun j e hf=>by have:=Oj e;subst this;exact h2.off hb (by decide) (by decide) hf),h.sep,fun _ hj=>hj,fun j hj=>by have:=h.lt j hj;omega,by rw[h1];simp,h3.kept g2 (.inr (zV h3 hb (by decide))),by
  rw[List.length_append]
  exact ho.kept g2 (.inr (zV ho hb (by decide))),h4.keptT g2 (fun j e=>by have:=Oj e;subst this;exact h6),h.lo,⟨h.loB.1,by have:=h.loB.2;omega⟩,yK (zC h.grown hg (fun j e=>Nat.le_trans h.lo (h.ownN.lt j e).1)) g2 (by show _<=o2;have:=h.lo;omega)⟩
theorem ExSt.pushF (h:ExSt B W0 W oN o2 X Y k l fs t hs sa sc mv sf cf sn cn){m:Nat}(hm:fs.length=m){b:Bool}{a9:Option Addr}{a8:Nat}(ho:W'.ownsRow o2 4 1 (.slice a9 (m+1) a8) (m+1) (bls fs++[.bool b]))(hg:W.grownBy W' (Value.slice sf m cf).ownBlock){W2:World}(a7:W2=W'.setCell ⟨o2,2,none⟩ (.slice a9 (m+1) a8)):ExSt B W0 W2 oN o2 X Y k l (fs++[b]) t hs sa sc mv a9 a8 sn cn:=by
 subst hm;have hb:=zB h.box hg (zV h.ownF h.box (by decide));have h1:=heap_setCell_same W' o2 2 _ _ (.slice a9 (fs.length+1) a8) hb;have g2:=zF W' ⟨o2,2,none⟩ (.slice a9 (fs.length+1) a8);rw[<-a7]at h1 g2;have h0:=h.num.offOwn h.ownF (by decide) (by decide);have h2:=h.num.kept hg (fun j e=>h0 j e)
 have h3:=h.ownN.kept hg (by
  rcases hv:(Value.slice sn t.length cn).ownBlock with _|j
  ·exact .inl rfl
  refine .inr fun e=>?_;obtain⟨cu,e',mm,hh,h6⟩:=vO (e':=4) h.ownN (by decide) j hv
  exact zV h.ownF hh (fun e2=>h6 e2.symm) e.symm)
 have h4:=h.rows.keptT hg (fun j e=>vO h.ownF (by decide) j e);have h5:yZ W' 3 o2:=⟨_,_,_,hb,by decide⟩;have hz:=hg.size;have h8:=g2.size;have h7:bls (fs++[b])=bls fs++[.bool b]:=by simp[bls]
 exact⟨h2.kept g2 (fun j e hf=>by have:=Oj e;subst this;exact h2.off hb (by decide) (by decide) hf),h.sep,h.XY,fun j hj=>by have:=h.lt j hj;omega,by rw[h1];simp,by
  rw[List.length_append,h7]
  exact ho.kept g2 (.inr (zV ho hb (by decide))),h3.kept g2 (.inr (zV h3 hb (by decide))),h4.keptT g2 (fun j e=>by have:=Oj e;subst this;exact h5),h.lo,⟨h.loB.1,by have:=h.loB.2;omega⟩,yK (zC h.grown hg (fun j e=>Nat.le_trans h.lo (h.ownF.lt j e).1)) g2 (by show _<=o2;have:=h.lo;omega)⟩
end
end Go.Proofs.Ytobakifdllameaa
namespace Go.Proofs.Ytobakifdllameaa
def mT (d:DfaV)(k q x:Nat):List Nat:=(List.range x).map (fun a=>(yH d k).idxOf (nx d q a))++List.replicate (k-x) 0
theorem mS {d:DfaV}{k q x:Nat}(h:x<=k):(mT d k q x).length=k:=by simp[mT];omega
theorem qKK {d:DfaV}{k q x:Nat}(h:x<k):(mT d k q x).set x ((yH d k).idxOf (nx d q x))=mT d k q (x+1):=by
 unfold mT;rw[List.set_append_right _ _ (by simp),List.range_succ,List.map_append,show k-x=(k-(x+1))+1 by omega,List.replicate_succ];simp
theorem qGT (d:DfaV)(k q:Nat):mT d k q 0=List.replicate k 0:=by simp[mT]
theorem qGU {d:DfaV}{n k q:Nat}(hd:VD d n k)(hA:∀a,a<k->nx d q a∈yH d k)(hq:q<n):zl (mT d k q k)=wV (yH d k) (d.next.getD q []):=by
 have hr:=hd.row q hq;refine List.ext_getElem (by rw[qPA,mS (Nat.le_refl k),wV,List.length_map,hr]) fun a h1 h2=>?_;have ha:a<k:=by simpa [zl,mT] using h1
 have e2:(wV (yH d k) (d.next.getD q []))[a]=qF (yH d k) ((d.next.getD q [])[a]'(by rw[hr];exact ha)).toNat:=by simp[wV]
 rw[e2]
 have e3:((d.next.getD q [])[a]'(by rw[hr];exact ha)).toNat=nx d q a:=by
  show _=(ent d.next q a).toNat;unfold ent;rw[zN (show a<(d.next.getD q []).length by rw[hr];exact ha)]
 rw[e3,qF,if_pos (hA a ha)];simp[zl,mT]
structure ExL (d:DfaV)(n k i:Nat)(l:List Nat):Prop where
 acc:AccI d n k i l
 go:qG d k (n-i) i l=yH d k
theorem ExL.start {d:DfaV}{n k:Nat}(hd:VD d n k):ExL d n k 0 [st0 d]:=⟨AccI.start hd,by rw[yH,hd.hn];rfl⟩
theorem ExL.le {d:DfaV}{n k i:Nat}{l:List Nat}(h:ExL d n k i l):l.length<=n:=qK h.acc.nd h.acc.lt
theorem ExL.next {d:DfaV}{n k i:Nat}{l:List Nat}(hd:VD d n k)(h:ExL d n k i l)(hi:i<l.length):ExL d n k (i+1) (vN d l i k):=by
 refine⟨h.acc.row hd hi,?_⟩;have:=h.le;have e:n-i=(n-(i+1))+1:=by omega
 have g:=h.go;rw[e,qG,if_pos hi]at g;exact g
theorem ExL.done {d:DfaV}{n k i:Nat}{l:List Nat}(h:ExL d n k i l)(hi:¬i<l.length):l=yH d k:=by
 have g:=h.go;rw[eQ hi]at g;exact g
theorem gK (d:DfaV)(k:Nat):∀f i l,l <+: qG d k f i l
 | 0,_,l=>List.prefix_refl l
 | f+1,i,l=>by
  rw[qG]
  split
  ·exact(tM d l i k).trans (gK d k f (i+1) _)
  ·exact List.prefix_refl l
theorem kT (d:DfaV)(l:List Nat)(i:Nat):∀ {a b},a<=b->vN d l i a <+: vN d l i b
 | a,0,h=>by rw[show a=0 by omega];exact List.prefix_refl _
 | a,b+1,h=>by
  by_cases e:a=b+1
  ·rw[e];exact List.prefix_refl _
  ·exact(kT d l i (by omega)).trans (nV _ _)
theorem ExL.pre {d:DfaV}{n k i:Nat}{l:List Nat}(hd:VD d n k)(h:ExL d n k i l)(hi:i<l.length){x:Nat}(hx:x<=k):vN d l i x <+: yH d k:=by
 have h2:=(h.next hd hi).go;exact(kT d l i hx).trans (h2 ▸ gK d k _ _ _)
theorem ExL.idx {d:DfaV}{n k i:Nat}{l:List Nat}(hd:VD d n k)(h:ExL d n k i l)(hi:i<l.length){x:Nat}(hx:x<k):(vN d l i (x+1)).idxOf (nx d (l.getD i 0) x)=(yH d k).idxOf (nx d (l.getD i 0) x) :=
 (gG (h.pre hd hi (show x+1<=k by omega)) (sK.2 (.inr ⟨x,by omega,rfl⟩))).symm
theorem ExL.done_mem {d:DfaV}{n k i:Nat}{l:List Nat}(hd:VD d n k)(h:ExL d n k i l)(hi:i<l.length){a:Nat}(ha:a<k):nx d (l.getD i 0) a∈yH d k :=
 (h.pre hd hi (show a+1<=k by omega)).subset (sK.2 (.inr ⟨a,by omega,rfl⟩))
theorem ExL.rowLen {d:DfaV}{n k i:Nat}{l:List Nat}(hd:VD d n k)(h:ExL d n k i l)(hi:i<l.length){x:Nat}(hx:x<=k):(vN d l i x).length<=n:=by
 have h1:=(kT d l i hx).length_le;have h2:=(h.next hd hi).le;omega
theorem mF {l m:List Nat}(h:l <+: m){i:Nat}(hi:i<=l.length):m.take i=l.take i:=by
 obtain⟨r,rfl⟩:=h;rw[List.take_append_of_le_length hi]
open Go.RowKit
theorem qAL {P:Program}{ops:Array Oper}{o:Oper}{a:Act}{w:World}{K:Act->World->Prop}{Q:Exit->Act->World->Prop}{R:Prop}(a4:o.guard=none)(s x:Operand)(t:TypeId)(ho:o.op=.call { callee:=.builtin .append,args:=#[s,x],argTypes:=#[t,t] }){e:TypeId}{z:Value}{a9:Nat}(E:ElemOk P t e z a9)(base:Nat)(v:Value)(n:Nat)(xs:List Value)(hs:a.eval s=v)(a6:w.ownsRow base e 1 v n xs)(u:Value)(blk:Nat)(m:Nat×Nat)(hx:a.eval x=.slice (some ⟨blk,0,none⟩) 1 1)(a5:w.heap[blk]?=some (.cells #[u] e m))(h1:u.oneCell'=true)(a3:n+1<=maxLen)(a8:(n+1)*a9<=140737488355328)(a7:base<=w.heap.size)(h:∀sa sc w',w'.ownsRow base e 1 (.slice sa (n+1) sc) (n+1) (xs++[u])->w.grownBy w' v.ownBlock->K (a.put o.dst (.slice sa (n+1) sc)) w'):
  if Region.wanted o (yielded ops a.tmps)=true then Oper.wp P o a w K Q else R:=by
 have hw:Region.wanted o (yielded ops a.tmps)=true:=by simp[Region.wanted,a4]
 rw[if_pos hw];obtain⟨i,hi,hz,h0,h3⟩:=info_parts E.hi;refine wp_append_own w s x t ho base e i z 1 a9 E.ht hi hz h0 h3 E.hz (by decide) v n xs hs a6 ⟨blk,0,none⟩ 1 1 [u] hx rfl ?_ ?_ a3 a8 a7 ?_
 ·intro j u' hj
  match j,hj with
  | 0,hj=>simp at hj;subst hj;simpa [Addr.add] using zG a5 0
 ·intro u' hu;simp at hu;subst hu;exact h1
 ·intro v' w' h1 h2 _
  obtain⟨sa,sc,rfl⟩:=qQ h1;exact h sa sc w' h1 h2
end Go.Proofs.Ytobakifdllameaa
