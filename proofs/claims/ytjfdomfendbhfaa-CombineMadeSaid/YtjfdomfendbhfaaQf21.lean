/- Part 21 of the proof. -/
import Derived.Test.YtjfdomfendbhfaaQf20
set_option linter.unusedVariables false
set_option linter.unusedSimpArgs false
set_option maxRecDepth 100000
set_option maxHeartbeats 16000000
namespace Go.Proofs.Ytjfdomfendbhfaa
open Go.RowKit Go.Maps
theorem posmap_under:Try.prog.underlying 150=some (.map 152 3):=by kernel_rfl
theorem pos_keyed:Keyed Try.prog 152:=Keyed.of_law (deep_law_laid (m:=5) (by kernel_rfl) (by decide) (of_decide_eq_true (by kernel_rfl)) (by kernel_rfl) (by kernel_rfl))
def posV (x:Nat×Nat):Value:=.agg #[.int .i64 (x.1:Int),.int .i64 (x.2:Int)]
def qFY (x:Nat×Nat):Prop:=x.1<4611686018427387904/\x.2<4611686018427387904
theorem qBN:Try.prog.cellsOf 152=2:=by kernel_rfl
theorem pos_some {x0 x1:Nat}(h0:x0<4611686018427387904)(h1:x1<4611686018427387904):(keyOf Try.prog 152 (.agg #[.int .i64 (x0:Int),.int .i64 (x1:Int)])).isSome=true:=by
 have hk:Try.prog.keyType 152=true:=by kernel_rfl
 unfold keyOf;rw[Try.underlying152];simp only[hk,Bool.true_and]
 have hf:(Value.agg #[.int .i64 (x0:Int),.int .i64 (x1:Int)]).formed Try.prog 152=true:=by
  simp[Value.formed,Try.underlying152,qBN]
 rw[if_pos hf]
 have hl:Try.prog.keyLits (Try.prog.types.size+1) 152 (Value.agg #[.int .i64 (x0:Int),.int .i64 (x1:Int)]).cells.toList=some [.int .i64 (x0:Int),.int .i64 (x1:Int)]:=by
  have hz:Try.prog.types.size=(Try.prog.types.size - 1)+1:=by kernel_rfl
  rw[hz];unfold Program.keyLits;rw[Try.underlying152];simp[Value.cells,qBN,eS,uZ _ h0,uZ _ h1]
 rw[hl];rfl
theorem qGN:KeyK 150 152 qFY posV where
 key:=pos_keyed
 und:=posmap_under
 of:=fun x h=>pos_some h.1 h.2
 inj:=fun x y hx hy e=>by
  simp only[posV,Value.agg.injEq]at e
  have e:=congrArg Array.toList e
  simp only[List.cons.injEq,Value.int.injEq,true_and,and_true]at e
  exact Prod.ext (by omega) (by omega)
end Go.Proofs.Ytjfdomfendbhfaa
namespace Go.Proofs.Ytjfdomfendbhfaa
def posL:Nat->List (List Nat)->List (Nat×Nat)
 | _,[]=>[]
 | i,u::us=>(List.range (u.length+1)).map (fun k=>(i,k))++posL (i+1) us
def wI (bs:List (List Nat)):List (Nat×Nat):=posL 0 bs
def offP (bs:List (List Nat))(i:Nat):Nat:=yJ (bs.take i)+i
def lenP (bs:List (List Nat))(i:Nat):Nat:=(bs.getD i []).length
theorem sK:∀ (bs:List (List Nat)) (i:Nat),(posL i bs).length=yJ bs+bs.length
 | [],i=>rfl
 | u::us,i=>by
  rw[posL,List.length_append,List.length_map,List.length_range,sK us,vU,List.length_cons];omega
theorem uI (bs:List (List Nat)):offP bs 0=0:=by simp[offP,yJ]
theorem qBU (u:List Nat)(us:List (List Nat))(i:Nat):offP (u::us) (i+1)=u.length+1+offP us i:=by
 simp only[offP,List.take_succ_cons,vU];omega
theorem qBT {bs:List (List Nat)}{i:Nat}(h:i<bs.length):offP bs (i+1)=offP bs i+lenP bs i+1:=by
 unfold offP lenP;rw[List.take_succ_eq_append_getElem h,jI,zG h];simp[yJ];omega
theorem qEQ:∀ (bs:List (List Nat)) (j i k:Nat),i<bs.length->k<=lenP bs i->(posL j bs)[offP bs i+k]?=some (j+i,k)
 | [],j,i,k,h,_=>by simp at h
 | u::us,j,0,k,h,hk=>by
  have hk':k<u.length+1:=by unfold lenP at hk;simp at hk;omega
  rw[uI,Nat.zero_add,posL,List.getElem?_append_left (by simpa using hk')]
  simp[hk']
 | u::us,j,i+1,k,h,hk=>by
  have:=qEQ us (j+1) i k (by simpa using h) (by unfold lenP at hk ⊢;simpa using hk)
  rw[qBU,posL,List.getElem?_append_right (by simp;omega),List.length_map,List.length_range,show u.length+1+offP us i+k - (u.length+1)=offP us i+k by omega,this]
  congr 2;omega
theorem nM {bs:List (List Nat)}{i k:Nat}(hi:i<bs.length)(hk:k<=lenP bs i):(wI bs)[offP bs i+k]?=some (i,k):=by
 have:=qEQ bs 0 i k hi hk
 rwa [Nat.zero_add]at this
theorem rK {bs:List (List Nat)}{i k:Nat}(hi:i<bs.length)(hk:k<=lenP bs i):offP bs i+k<(wI bs).length:=(List.getElem?_eq_some_iff.1 (nM hi hk)).1
theorem bH:∀ (bs:List (List Nat)) (j p:Nat),p<(posL j bs).length->∃ i k,i<bs.length/\k<=lenP bs i/\p=offP bs i+k
 | [],j,p,h=>by simp[posL]at h
 | u::us,j,p,h=>by
  by_cases hp:p<u.length+1
  ·exact⟨0,p,by simp,by unfold lenP;simp;omega,by rw[uI];omega⟩
  ·rw[sK,vU,List.length_cons]at h
   obtain⟨i,k,hi,hk,e⟩:=bH us (j+1) (p - (u.length+1)) (by rw[sK];omega)
   exact⟨i+1,k,by simpa using hi,by unfold lenP at hk ⊢;simpa using hk,by rw[qBU];omega⟩
theorem posOf_cover {bs:List (List Nat)}{p:Nat}(h:p<(wI bs).length):∃ i k,i<bs.length/\k<=lenP bs i/\p=offP bs i+k:=bH bs 0 p h
theorem qGO:∀ (bs:List (List Nat)) (j:Nat),∀ x∈posL j bs,j<=x.1
 | [],j,x,hx=>by simp[posL]at hx
 | u::us,j,x,hx=>by
  rcases List.mem_append.1 hx with hx|hx
  ·obtain⟨k,_,rfl⟩:=List.mem_map.1 hx;exact Nat.le_refl _
  ·have:=qGO us (j+1) x hx;omega
theorem bG:∀ (bs:List (List Nat)) (j:Nat),(posL j bs).Nodup
 | [],j=>by simp[posL]
 | u::us,j=>by
  rw[posL,List.nodup_append]
  refine⟨?_,bG us (j+1),fun x hx y hy e=>?_⟩
  ·rw[List.Nodup,List.pairwise_map]
   exact(List.nodup_range (n:=u.length+1)).imp fun hne e=>hne (by simpa using e)
  ·obtain⟨k,_,rfl⟩:=List.mem_map.1 hx
   have:=qGO us (j+1) y hy
   rw[<- e]at this
   have:j+1<=j:=this
   omega
def leP (bs:List (List Nat))(x:Nat×Nat)(a:Nat):Bool:=decide (x.2<lenP bs x.1) && (bs.getD x.1 []).getD x.2 0 == a
def stP (x:Nat×Nat):Bool:=decide (x.2=0) && decide (0<x.1)
def enP (bs:List (List Nat))(x:Nat×Nat):Bool:=decide (x.2=lenP bs x.1) && decide (x.1+1<bs.length)
def atP (bs:List (List Nat))(p:Nat):Nat×Nat:=(wI bs).getD p (0,0)
theorem mC {bs:List (List Nat)}{i k:Nat}(hi:i<bs.length)(hk:k<=lenP bs i):atP bs (offP bs i+k)=(i,k):=by
 unfold atP;rw[List.getD_eq_getElem?_getD,nM hi hk];rfl
def bitP (S:List Bool)(p:Nat):Bool:=S.getD p false
def lV (bs:List (List Nat))(S:List Bool)(a p:Nat)(t:List Bool):List Bool :=
 if bitP S p then
  (if stP (atP bs p) then (if leP bs (atP bs p) a then t.set (p+1) true else t).set p true else (if leP bs (atP bs p) a then t.set (p+1) true else t))
 else t
def yL (bs:List (List Nat))(m:Nat)(S:List Bool)(a:Nat):Nat->List Bool
 | 0=>List.replicate m false
 | p+1=>lV bs S a p (yL bs m S a p)
def pO (bs:List (List Nat))(S:List Bool):Nat->List Bool
 | 0=>S
 | p+1=>if bitP (pO bs S p) p && enP bs (atP bs p) then (pO bs S p).set (p+1) true else pO bs S p
theorem uK (bs:List (List Nat))(m:Nat)(S:List Bool)(a:Nat):∀ p,(yL bs m S a p).length=m
 | 0=>by simp[yL]
 | p+1=>by
  have:=uK bs m S a p
  unfold yL lV
  split
  ·split<;>split<;>simp[this]
  ·exact this
theorem sZ (bs:List (List Nat))(S:List Bool):∀ p,(pO bs S p).length=S.length
 | 0=>rfl
 | p+1=>by
  have:=sZ bs S p
  unfold pO
  split<;>simp[this]
theorem qDV {t:List Bool}{q p:Nat}(hq:q<t.length):bitP (t.set q true) p=(decide (q=p) || bitP t p):=by
 unfold bitP;by_cases e:q=p
 ·subst e
  rw[kU hq];simp
 ·rw[fO e];simp[e]
theorem aE {t:List Bool}{q p:Nat}:bitP (t.set q true) p=(decide (q=p/\q<t.length) || bitP t p):=by
 by_cases hq:q<t.length
 ·rw[qDV hq];simp[hq]
 ·rw[List.set_eq_of_length_le (by omega)];simp[hq]
theorem aD (bs:List (List Nat)){m:Nat}(S:List Bool)(a:Nat):∀ q p,p<m->(bitP (yL bs m S a q) p=true ↔ (∃ p',p=p'+1/\p'<q/\bitP S p'=true/\leP bs (atP bs p') a=true)\/(p<q/\bitP S p=true/\stP (atP bs p)=true))
 | 0,p,hp=>by
  simp[yL,bitP,List.getD,List.getElem?_replicate,hp]
 | q+1,p,hp=>by
  have ih:=aD bs S a q p hp
  have hl:=uK bs m S a q
  unfold yL lV
  by_cases hS:bitP S q=true
  ·rw[if_pos hS]
   have e1:bitP (if leP bs (atP bs q) a then (yL bs m S a q).set (q+1) true else yL bs m S a q) p=true ↔ (p=q+1/\leP bs (atP bs q) a=true)\/bitP (yL bs m S a q) p=true:=by
    by_cases hle:leP bs (atP bs q) a=true
    ·rw[if_pos hle,aE]
     simp only[Bool.or_eq_true,decide_eq_true_eq,hl];constructor
     ·rintro (⟨h,_⟩|h)
      ·exact .inl ⟨h.symm,hle⟩
      ·exact .inr h
     ·rintro (⟨h,_⟩|h)
      ·exact .inl ⟨h.symm,by omega⟩
      ·exact .inr h
    ·rw[if_neg hle]
     constructor
     ·exact .inr
     ·rintro (⟨_,h⟩|h)
      ·exact absurd h hle
      ·exact h
   have h0:(if leP bs (atP bs q) a then (yL bs m S a q).set (q+1) true else yL bs m S a q).length=m:=by split<;>simp[hl]
   have e2:bitP (if stP (atP bs q) then (if leP bs (atP bs q) a then (yL bs m S a q).set (q+1) true else yL bs m S a q).set q true else (if leP bs (atP bs q) a then (yL bs m S a q).set (q+1) true else yL bs m S a q)) p=true ↔ (p=q/\stP (atP bs q)=true)\/(p=q+1/\leP bs (atP bs q) a=true)\/bitP (yL bs m S a q) p=true:=by
    by_cases hst:stP (atP bs q)=true
    ·rw[if_pos hst,aE]
     simp only[Bool.or_eq_true,decide_eq_true_eq,h0,e1];constructor
     ·rintro (⟨h,_⟩|h)
      ·exact .inl ⟨h.symm,hst⟩
      ·exact .inr h
     ·rintro (⟨h,_⟩|h)
      ·exact .inl ⟨h.symm,by omega⟩
      ·exact .inr h
    ·rw[if_neg hst,e1]
     constructor
     ·exact .inr
     ·rintro (⟨_,h⟩|h)
      ·exact absurd h hst
      ·exact h
   rw[e2,ih];constructor
   ·rintro (⟨rfl,h⟩|⟨rfl,h⟩|⟨p',h1,h2,h3⟩|⟨h1,h2⟩)
    ·exact .inr ⟨by omega,hS,h⟩
    ·exact .inl ⟨q,rfl,by omega,hS,h⟩
    ·exact .inl ⟨p',h1,by omega,h3⟩
    ·exact .inr ⟨by omega,h2⟩
   ·rintro (⟨p',h1,h2,h3,h4⟩|⟨h1,h2,h3⟩)
    ·by_cases e:p'=q
     ·subst e;exact .inr (.inl ⟨h1,h4⟩)
     ·exact .inr (.inr (.inl ⟨p',h1,by omega,h3,h4⟩))
    ·by_cases e:p=q
     ·subst e;exact .inl ⟨rfl,h3⟩
     ·exact .inr (.inr (.inr ⟨by omega,h2,h3⟩))
  ·rw[if_neg hS,ih]
   constructor
   ·rintro (⟨p',h1,h2,h3⟩|⟨h1,h2⟩)
    ·exact .inl ⟨p',h1,by omega,h3⟩
    ·exact .inr ⟨by omega,h2⟩
   ·rintro (⟨p',h1,h2,h3,h4⟩|⟨h1,h2,h3⟩)
    ·by_cases e:p'=q
     ·subst e;exact absurd h3 hS
     ·exact .inl ⟨p',h1,by omega,h3,h4⟩
    ·by_cases e:p=q
     ·subst e;exact absurd h2 hS
     ·exact .inr ⟨by omega,h2,h3⟩
def sprF (bs:List (List Nat))(S:List Bool):Nat->Bool
 | 0=>bitP S 0
 | p+1=>bitP S (p+1) || (sprF bs S p && enP bs (atP bs p))
theorem qDG (bs:List (List Nat))(S:List Bool):∀ q,q<S.length->∀ p,p<S.length->bitP (pO bs S q) p=if p<=q then sprF bs S p else bitP S p
 | 0,_,p,hp=>by
  by_cases e:p<=0
  ·rw[if_pos e,show p=0 by omega];rfl
  ·rw[if_neg e];rfl
 | q+1,hq,p,hp=>by
  have ih:=qDG bs S q (by omega)
  have hl:=sZ bs S q
  have hqq:bitP (pO bs S q) q=sprF bs S q:=by rw[ih q (by omega),if_pos (Nat.le_refl q)]
  unfold pO
  rw[hqq]
  by_cases hc:(sprF bs S q && enP bs (atP bs q))=true
  ·rw[if_pos hc,qDV (by omega),ih p hp]
   by_cases e:q+1=p
   ·subst e
    rw[if_neg (by omega),if_pos (Nat.le_refl _),sprF,hc];simp
   ·by_cases h2:p<=q
    ·rw[if_pos h2,if_pos (by omega)];simp[e]
    ·rw[if_neg h2,if_neg (by omega)];simp[e]
  ·rw[if_neg hc,ih p hp]
   by_cases e:q+1=p
   ·subst e
    rw[if_neg (by omega),if_pos (Nat.le_refl _),sprF]
    rw[Bool.not_eq_true]at hc
    rw[hc,Bool.or_false]
   ·by_cases h2:p<=q
    ·rw[if_pos h2,if_pos (by omega)]
    ·rw[if_neg h2,if_neg (by omega)]
theorem spr_last (bs:List (List Nat))(S:List Bool)(h:0<bs.length)(hS:S.length=(wI bs).length):pO bs S S.length=pO bs S (S.length - 1):=by
 have hm:(wI bs).length=yJ bs+bs.length:=sK bs 0;obtain⟨m,e⟩:∃ m,S.length=m+1:=⟨S.length - 1,by omega⟩;rw[e,Nat.add_sub_cancel];have hl:=sZ bs S m;show (if _ then (pO bs S m).set (m+1) true else pO bs S m)=_
 split
 ·rw[List.set_eq_of_length_le (by omega)]
 ·rfl
def spr (bs:List (List Nat))(S:List Bool):List Bool:=pO bs S S.length
theorem iO {bs:List (List Nat)}{S:List Bool}(h:0<bs.length)(hS:S.length=(wI bs).length){p:Nat}(hp:p<S.length):bitP (spr bs S) p=sprF bs S p:=by
 unfold spr;rw[spr_last bs S h hS,qDG bs S _ (by omega) p hp,if_pos (by omega)]
def oW (m:Nat):List Bool:=(List.replicate m false).set 0 true
def nxtB (bs:List (List Nat))(S:List Bool)(a:Nat):List Bool:=spr bs (yL bs (wI bs).length S a (wI bs).length)
def s0B (bs:List (List Nat)):List Bool:=spr bs (oW (wI bs).length)
theorem cO (bs:List (List Nat))(S:List Bool):(spr bs S).length=S.length:=sZ _ _ _
theorem nxtB_length (bs:List (List Nat))(S:List Bool)(a:Nat):(nxtB bs S a).length=(wI bs).length:=by rw[nxtB,cO,uK]
theorem s0B_length (bs:List (List Nat)):(s0B bs).length=(wI bs).length:=by rw[s0B,cO];simp[oW]
def PosP (bs:List (List Nat)):Nat->Nat->List Nat->Prop
 | 0,k,s=>s=(bs.getD 0 []).take k
 | i+1,k,s=>∃ s1 x,s=s1++x++(bs.getD (i+1) []).take k/\PosP bs i (lenP bs i) s1
theorem jW {u:List Nat}{k:Nat}(h:k<u.length):u.take (k+1)=u.take k++[u.getD k 0]:=zR (d:=0) h
theorem fW {bs:List (List Nat)}{i k:Nat}(hk:k<lenP bs i){w:List Nat}{a:Nat}:PosP bs i (k+1) (w++[a]) ↔ PosP bs i k w/\(bs.getD i []).getD k 0=a:=by
 unfold lenP at hk;cases i with
 | zero =>
  show w++[a]=_ ↔ w=_/\_;rw[jW hk];constructor
  ·intro h
   obtain⟨h1,h2⟩:=List.append_inj' h rfl;exact⟨h1,by simpa using h2.symm⟩
  ·rintro ⟨rfl,rfl⟩;rfl
 | succ i =>
  constructor
  ·rintro ⟨s1,x,h,hp⟩
   rw[jW hk,<- List.append_assoc]at h;obtain⟨h1,h2⟩:=List.append_inj' h rfl;exact⟨⟨s1,x,h1,hp⟩,by simpa using h2.symm⟩
  ·rintro ⟨⟨s1,x,rfl,hp⟩,rfl⟩
   exact⟨s1,x,by rw[jW hk];simp,hp⟩
theorem posP_loop {bs:List (List Nat)}{i:Nat}{w:List Nat}{a:Nat}:PosP bs (i+1) 0 (w++[a]) ↔ PosP bs (i+1) 0 w\/PosP bs i (lenP bs i) (w++[a]):=by
 constructor
 ·rintro ⟨s1,x,h,hp⟩
  rw[List.take_zero,List.append_nil]at h;rcases List.eq_nil_or_concat x with rfl|⟨x',b,rfl⟩
  ·rw[List.append_nil]at h
   exact .inr (h ▸ hp)
  ·rw[List.concat_eq_append,<- List.append_assoc]at h
   obtain⟨h1,_⟩:=List.append_inj' h rfl;exact .inl ⟨s1,x',by rw[List.take_zero,List.append_nil];exact h1,hp⟩
 ·rintro (⟨s1,x,h,hp⟩|hp)
  ·rw[List.take_zero,List.append_nil]at h
   exact⟨s1,x++[a],by rw[List.take_zero,List.append_nil,h];simp,hp⟩
  ·exact⟨w++[a],[],by simp,hp⟩
theorem posP_nil {bs:List (List Nat)}{i:Nat}:PosP bs (i+1) 0 [] ↔ PosP bs i (lenP bs i) []:=by
 constructor
 ·rintro ⟨s1,x,h,hp⟩
  rw[List.take_zero,List.append_nil]at h;have h:=h.symm;rw[List.append_eq_nil_iff]at h;rw[<- h.1];exact hp
 ·intro hp;exact⟨[],[],by simp,hp⟩
theorem bE {bs:List (List Nat)}{i k:Nat}(hk:k<lenP bs i):¬ PosP bs i (k+1) []:=by
 unfold lenP at hk;cases i with
 | zero =>
  intro h;have h:[]=(bs.getD 0 []).take (k+1):=h;have:=congrArg List.length h;rw[List.length_take]at this;have:0=min (k+1) (bs.getD 0 []).length:=this;omega
 | succ i =>
  rintro ⟨s1,x,h,_⟩;have:=congrArg List.length h;simp only[List.length_nil,List.length_append,List.length_take]at this;omega
section
variable {bs:List (List Nat)}
theorem qIR {i:Nat}(hi:i+1<bs.length):enP bs (i,lenP bs i)=true:=by simp[enP,hi]
theorem qIB {i k:Nat}(hk:k<lenP bs i):enP bs (i,k)=false:=by
 unfold enP;have:decide (k=lenP bs i)=false:=by rw[decide_eq_false_iff_not];omega
 simp[this]
theorem jC {i:Nat}(hi:i+1<bs.length):offP bs (i+1)+0=offP bs i+lenP bs i+1:=by rw[qBT (by omega)]
theorem set_mem (h0:0<bs.length)(w:List Nat):∀ i k,i<bs.length->k<=lenP bs i->(bitP (sE (nxtB bs) (s0B bs) w) (offP bs i+k)=true ↔ PosP bs i k w):=by
 have h8:∀ (n:Nat) (w:List Nat),w.length=n->∀ i k,i<bs.length->k<=lenP bs i->(bitP (sE (nxtB bs) (s0B bs) w) (offP bs i+k)=true ↔ PosP bs i k w):=by
  intro n
  induction n with
  | zero =>
   intro w hw;have:=List.eq_nil_of_length_eq_zero hw;subst this;have hS:(oW (wI bs).length).length=(wI bs).length:=by simp[oW]
   have hm:0<(wI bs).length:=by have:(wI bs).length=yJ bs+bs.length:=sK bs 0;omega
   have h7:∀ p,bitP (oW (wI bs).length) p=decide (0=p):=fun p=>by
    rw[oW,qDV (by simpa using hm)]
    have:bitP (List.replicate (wI bs).length false) p=false:=by
     unfold bitP;rw[List.getD_eq_getElem?_getD,List.getElem?_replicate];split<;>rfl
    rw[this,Bool.or_false]
   intro i
   induction i with
   | zero =>
    intro k hi hk;have hp:=rK hi hk;show bitP (s0B bs) _=true ↔ _;rw[s0B,iO h0 hS (by rw[hS];exact hp),uI,Nat.zero_add];cases k with
    | zero=>simp[sprF,h7,PosP]
    | succ k =>
     have e:=mC hi (show k<=lenP bs 0 by omega);rw[uI,Nat.zero_add]at e;rw[sprF,e,qIB (by omega),h7];simp;exact bE (by omega)
   | succ i ih =>
    intro k hi hk;have hp:=rK hi hk;show bitP (s0B bs) _=true ↔ _;rw[s0B,iO h0 hS (by rw[hS];exact hp)];cases k with
    | zero =>
     have h5:i<bs.length:=(by omega);have e:=mC h5 (Nat.le_refl (lenP bs i));have ih':=ih (lenP bs i) h5 (Nat.le_refl _);have ih':bitP (s0B bs) (offP bs i+lenP bs i)=true ↔ _:=ih';rw[s0B,iO h0 hS (by rw[hS];exact rK h5 (Nat.le_refl _))]at ih';rw[jC hi,sprF,e,qIR hi,h7,posP_nil,<- ih'];simp
    | succ k =>
     have e:=mC hi (show k<=lenP bs (i+1) by omega);rw[<- Nat.add_assoc,sprF,e,qIB (by omega),h7];simp;exact bE (by omega)
  | succ n ihw =>
   intro w hw;have H0:w≠[]:=(by intro e;subst e;simp at hw);obtain⟨w',a,rfl⟩:∃ w' a,w=w'++[a]:=⟨w.dropLast,w.getLast H0,(List.dropLast_concat_getLast H0).symm⟩;have H2:w'.length=n:=by simpa using hw
   have ihw':=ihw w' H2;have H1:sE (nxtB bs) (s0B bs) (w'++[a])=nxtB bs (sE (nxtB bs) (s0B bs) w') a:=by simp[sE]
   rw[H1]
   generalize sE (nxtB bs) (s0B bs) w'=S at ihw'
   have hS:(yL bs (wI bs).length S a (wI bs).length).length=(wI bs).length:=uK _ _ _ _ _
   have h4:∀ p,p<(wI bs).length->(bitP (yL bs (wI bs).length S a (wI bs).length) p=true ↔ (∃ p',p=p'+1/\bitP S p'=true/\leP bs (atP bs p') a=true)\/(bitP S p=true/\stP (atP bs p)=true)):=fun p hp=>by
    rw[aD bs S a _ p hp];constructor
    ·rintro (⟨p',h1,_,h3⟩|⟨_,h2⟩)
     ·exact .inl ⟨p',h1,h3⟩
     ·exact .inr h2
    ·rintro (⟨p',h1,h3⟩|h2)
     ·exact .inl ⟨p',h1,by omega,h3⟩
     ·exact .inr ⟨hp,h2⟩
   intro i
   induction i with
   | zero =>
    intro k hi hk;have hp:=rK hi hk;show bitP (nxtB bs S a) _=true ↔ _;rw[nxtB,iO h0 hS (by rw[hS];exact hp)];cases k with
    | zero =>
     rw[uI,Nat.zero_add,sprF,h4 0 (by have:=hp;omega)];have e:=mC hi (Nat.zero_le (lenP bs 0));rw[uI,Nat.zero_add]at e;rw[e];constructor
     ·rintro (⟨p',h,_⟩|⟨_,h⟩)
      ·omega
      ·simp[stP]at h
     ·intro h
      have h:w'++[a]=(bs.getD 0 []).take 0:=h;simp at h
    | succ k =>
     have e:=mC hi (show k<=lenP bs 0 by omega);have e2:=mC hi hk;rw[uI,Nat.zero_add]at e e2;rw[uI,Nat.zero_add,sprF,e,qIB (by omega),Bool.and_false,Bool.or_false,h4 (k+1) (by rw[uI,Nat.zero_add]at hp;exact hp),e2,fW (by omega),<- ihw' 0 k hi (by omega),uI,Nat.zero_add];constructor
     ·rintro (⟨p',h1,h2,h3⟩|⟨_,h⟩)
      ·have:p'=k:=by omega
       subst this;rw[e]at h3;simp only[leP,Bool.and_eq_true,beq_iff_eq]at h3;exact⟨h2,h3.2⟩
      ·simp[stP]at h
     ·rintro ⟨h1,h2⟩
      refine .inl ⟨k,rfl,h1,?_⟩;rw[e];simp only[leP,Bool.and_eq_true,beq_iff_eq,decide_eq_true_eq];exact⟨by omega,h2⟩
   | succ i ih =>
    intro k hi hk;have hp:=rK hi hk;show bitP (nxtB bs S a) _=true ↔ _;rw[nxtB,iO h0 hS (by rw[hS];exact hp)];cases k with
    | zero =>
     have h5:i<bs.length:=(by omega);have e:=mC h5 (Nat.le_refl (lenP bs i));have e2:=mC hi (Nat.zero_le (lenP bs (i+1)));have ih':bitP (nxtB bs S a) (offP bs i+lenP bs i)=true ↔ _:=ih (lenP bs i) h5 (Nat.le_refl _);rw[nxtB,iO h0 hS (by rw[hS];exact rK h5 (Nat.le_refl _))]at ih';have h6:=hp;rw[jC hi]at h6 e2;have h9:=ihw' (i+1) 0 hi (Nat.zero_le _);rw[jC hi]at h9;rw[jC hi,sprF,e,qIR hi,Bool.and_true,Bool.or_eq_true,ih',h4 _ h6,e2,posP_loop,<- h9];constructor
     ·rintro ((⟨p',h1,h2,h3⟩|⟨h2,_⟩)|h)
      ·have:p'=offP bs i+lenP bs i:=by omega
       subst this;rw[e]at h3;simp[leP]at h3
      ·exact .inl h2
      ·exact .inr h
     ·rintro (h|h)
      ·exact .inl (.inr ⟨h,by simp[stP]⟩)
      ·exact .inr h
    | succ k =>
     have e:=mC hi (show k<=lenP bs (i+1) by omega);have e2:=mC hi hk;have h6:=hp;rw[<- Nat.add_assoc]at h6 e2;rw[<- Nat.add_assoc,sprF,e,qIB (by omega),Bool.and_false,Bool.or_false,h4 _ h6,e2,fW (by omega),<- ihw' (i+1) k hi (by omega)];constructor
     ·rintro (⟨p',h1,h2,h3⟩|⟨_,h⟩)
      ·have:p'=offP bs (i+1)+k:=by omega
       subst this;rw[e]at h3;simp only[leP,Bool.and_eq_true,beq_iff_eq]at h3;exact⟨h2,h3.2⟩
      ·simp[stP]at h
     ·rintro ⟨h1,h2⟩
      refine .inl ⟨offP bs (i+1)+k,rfl,h1,?_⟩;rw[e];simp only[leP,Bool.and_eq_true,beq_iff_eq,decide_eq_true_eq];exact⟨by omega,h2⟩
 exact h8 w.length w rfl
theorem qEP (h0:0<bs.length)(s:List Nat):∀ i,i<bs.length->((∃ s1 r,s=s1++r/\PosP bs i (lenP bs i) s1/\TlN (bs.drop (i+1)) r) ↔ PatN bs s)
 | 0,_=>by
  match bs,h0 with
  | b::us,_ =>
   constructor
   ·rintro ⟨s1,r,rfl,h1,h2⟩
    have h1:s1=b.take b.length:=h1
    rw[List.take_length]at h1
    exact⟨r,by rw[h1],h2⟩
   ·rintro ⟨r,rfl,h⟩
    exact⟨b,r,rfl,by show b=b.take b.length;rw[List.take_length],h⟩
 | i+1,hi=>by
  rw[<- qEP h0 s i (by omega)]
  have hd:bs.drop (i+1)=bs.getD (i+1) []::bs.drop (i+1+1):=by
   rw[List.drop_eq_getElem_cons hi,zG hi]
  constructor
  ·rintro ⟨s1,r,rfl,⟨t,x,h1,h2⟩,h3⟩
   unfold lenP at h1;rw[List.take_length]at h1;exact⟨t,x++bs.getD (i+1) []++r,by rw[h1];simp,h2,by rw[hd];exact⟨x,r,rfl,h3⟩⟩
  ·rintro ⟨s1,r,rfl,h2,h3⟩
   rw[hd]at h3;obtain⟨p,r',rfl,h4⟩:=h3;exact⟨s1++p++bs.getD (i+1) [],r',by simp,⟨s1,p,by unfold lenP;rw[List.take_length],h2⟩,h4⟩
def finP (bs:List (List Nat))(S:List Bool):Bool:=bitP S (offP bs (bs.length - 1)+lenP bs (bs.length - 1))
theorem finP_pat (h0:0<bs.length)(w:List Nat):finP bs (sE (nxtB bs) (s0B bs) w)=true ↔ PatN bs w:=by
 rw[finP,set_mem h0 w _ _ (by omega) (Nat.le_refl _),<- qEP h0 w (bs.length - 1) (by omega),List.drop_eq_nil_of_le (by omega)];constructor
 ·intro h;exact⟨w,[],by simp,h,rfl⟩
 ·rintro ⟨s1,r,rfl,h,h2⟩
  have h2:r=[]:=h2;rw[h2,List.append_nil];exact h
end
end Go.Proofs.Ytjfdomfendbhfaa
namespace Go.Proofs.Ytjfdomfendbhfaa
open Go.RowKit Go.Maps
def pG (l:List (Nat×Nat)):List Value:=l.flatMap fun x=>[.int .i64 (x.1:Int),.int .i64 (x.2:Int)]
theorem posVals_snoc (l:List (Nat×Nat))(x:Nat×Nat):pG (l++[x])=pG l++[.int .i64 (x.1:Int),.int .i64 (x.2:Int)]:=by simp[pG]
theorem elem_pos:ElemN Try.prog 149 152 2 (.agg #[.int .i64 0,.int .i64 0]) 16:=⟨by kernel_rfl,by kernel_rfl,by rfl,by decide⟩
theorem elem_brow:ElemN Try.prog 102 39 1 (.slice none 0 0) 24:=⟨by kernel_rfl,by kernel_rfl,by rfl,by decide⟩
structure PosAt (w:World)(b:Nat)(l:List (Nat×Nat)):Prop where
 lt:b<w.heap.size
 x0:∀ i,i<l.length->w.cell? ⟨b,i * 2,none⟩=some (.int .i64 (((l.getD i (0,0)).1:Nat):Int))
 x1:∀ i,i<l.length->w.cell? ⟨b,i * 2+1,none⟩=some (.int .i64 (((l.getD i (0,0)).2:Nat):Int))
theorem PosAt.kept {w w':World}{b:Nat}{l:List (Nat×Nat)}{row:Option Nat}(h:PosAt w b l)(hg:w.grownBy w' row)(hr:row≠some b):PosAt w' b l :=
 ⟨Nat.lt_of_lt_of_le h.lt hg.size,fun i hi=>(World.cell?_of_block (hg.block _ h.lt (fun e=>hr e.symm))).trans (h.x0 i hi),fun i hi=>(World.cell?_of_block (hg.block _ h.lt (fun e=>hr e.symm))).trans (h.x1 i hi)⟩
theorem lY:∀ (l:List (Nat×Nat)) (i:Nat),i<l.length->(pG l)[i * 2]?=some (.int .i64 (((l.getD i (0,0)).1:Nat):Int))/\(pG l)[i * 2+1]?=some (.int .i64 (((l.getD i (0,0)).2:Nat):Int))
 | [],i,hi=>by simp at hi
 | x::l,0,_=>⟨rfl,rfl⟩
 | x::l,i+1,hi=>by
  have h:=lY l i (by simpa using hi)
  have e:pG (x::l)=.int .i64 (x.1:Int)::.int .i64 (x.2:Int)::pG l:=rfl
  rw[e,show (i+1) * 2=i * 2+1+1 by omega,show i * 2+1+1+1=(i * 2+1)+1+1 by omega]
  simpa using h
theorem PosAt.of_owns {w:World}{base e n g cap:Nat}{l:List (Nat×Nat)}(h:w.ownsRow base e 2 (.slice (some ⟨g,0,none⟩) n cap) n (pG l)):PosAt w g l:=by
 have h0:∀ j,(⟨g,0,none⟩:Addr).add j=⟨g,j,none⟩:=fun j=>by unfold Addr.add;split<;>simp_all
 refine⟨(h.lt g rfl).2,fun i hi=>?_,fun i hi=>?_⟩
 ·have:=h.cells (g:=g) rfl (i * 2) _ (lY l i hi).1
  rwa [h0]at this
 ·have:=h.cells (g:=g) rfl (i * 2+1) _ (lY l i hi).2
  rwa [h0]at this
theorem owns_some2 {w:World}{base e n sc:Nat}{sa:Option Addr}{xs:List Value}(h:w.ownsRow base e 2 (.slice sa n sc) n xs)(hn:0<n):∃ kb,sa=some ⟨kb,0,none⟩/\n<=sc/\sc<=maxLen:=by
 rcases h.2 with ⟨h',h0⟩|⟨g,cap,cur,h1,hb,hg,hnc,hcm,_⟩
 ·omega
 ·simp only[Value.slice.injEq]at h1
  obtain⟨rfl,-,rfl⟩:=h1;exact⟨g,rfl,hnc,hcm⟩
def numP (l:List (Nat×Nat))(x:Nat×Nat):Option Nat:=if x∈l then some (l.idxOf x) else none
theorem numP_snoc {l:List (Nat×Nat)}{x:Nat×Nat}(h:x ∉ l):(fun q=>if q=x then some l.length else numP l q)=numP (l++[x]):=by
 funext q;unfold numP;by_cases e:q=x
 ·subst e
  rw[if_pos rfl,if_pos (by simp),List.idxOf_append,if_neg h];simp
 ·rw[if_neg e]
  by_cases hq:q∈l
  ·rw[if_pos hq,if_pos (by simp[hq]),List.idxOf_append,if_pos hq]
  ·rw[if_neg hq,if_neg (by simp[hq,e])]
theorem fX (bs:List (List Nat)):(wI bs).Nodup:=bG bs 0
theorem nL (bs:List (List Nat)):(wI bs).length=yJ bs+bs.length:=sK bs 0
theorem posOf_idx {bs:List (List Nat)}{i k:Nat}(hi:i<bs.length)(hk:k<=lenP bs i):(wI bs).idxOf (i,k)=offP bs i+k:=by
 obtain⟨h1,h2⟩:=List.getElem?_eq_some_iff.1 (nM hi hk);rw[<- h2];exact(fX bs).idxOf_getElem _ h1
theorem numP_get {bs:List (List Nat)}{i k:Nat}(hi:i<bs.length)(hk:k<=lenP bs i):((numP (wI bs) (i,k)).getD 0:Nat)=offP bs i+k:=by
 unfold numP;rw[if_pos (List.mem_of_getElem? (nM hi hk)),Option.getD_some,posOf_idx hi hk]
theorem bF {bs:List (List Nat)}{i k:Nat}(hi:i<bs.length)(hk:k<=lenP bs i):(wI bs).take (offP bs i+k)++[(i,k)]=(wI bs).take (offP bs i+k+1):=by
 obtain⟨h1,h2⟩:=List.getElem?_eq_some_iff.1 (nM hi hk);rw[List.take_succ_eq_append_getElem h1,h2]
theorem posOf_fresh {bs:List (List Nat)}{i k:Nat}(hi:i<bs.length)(hk:k<=lenP bs i):(i,k) ∉ (wI bs).take (offP bs i+k):=by
 intro h;have hn:=(fX bs).sublist (List.take_sublist (offP bs i+k+1) _);rw[<- bF hi hk,List.nodup_append]at hn;exact hn.2.2 _ h _ (by simp) rfl
end Go.Proofs.Ytjfdomfendbhfaa
namespace Go.Proofs.Ytjfdomfendbhfaa
open Go.RowKit Go.Maps
section
variable {B tb k np nc pc cc:Nat} {w0 w:World} {pa ca:Option Addr} {root:Int} {L:List (List (List Int))} {cs:List ChoV}
theorem mY {letters:Int}{p:List (List Int)}(h:tK letters p):∀ u∈p,u.length<=2:=fun u hu=>by
 obtain⟨i,hi,rfl⟩:=List.getElem_of_mem hu
 exact(h.2.2 i hi).1
theorem qFD:∀ {p:List (List Int)},(∀ u∈p,u.length<=2)->(p.map List.length).sum<=2 * p.length
 | [],_=>Nat.le_refl _
 | u::p,h=>by
  rw[List.map_cons,List.sum_cons,List.length_cons]
  have:=h u (List.mem_cons_self ..)
  have:=qFD (p:=p) (fun v hv=>h v (List.mem_cons_of_mem _ hv))
  omega
theorem good_total {letters:Int}{p:List (List Int)}(h:tK letters p):sY (p.map strOfNums)<=8:=by
 rw[famB_total];have:=qFD (mY h);have:=h.1;omega
theorem DgD.step {w':World}{row:Option Nat}(h:DgD B tb w0 w k pa ca np nc pc cc root L cs)(hg:w.grownBy w' row)(hr:∀ j,row=some j->j=tb)(htb:tb<w0.heap.size)(hT:xX B w' tb):DgD B tb w0 w' k pa ca np nc pc cc root L cs:=by
 obtain⟨svs,h2,h3⟩:=h.pats;obtain⟨base,hb,ho⟩:=h.own;have h1:=uD h.tape
 have h0:w.grownBy w' (some tb):=by
  rcases row with _|j
  ·exact yQ hg
  ·rw[hr j rfl]at hg;exact hg
 refine⟨⟨svs,(h2.kept h0 (fun j e=>.inr (h1 j e).1)).mono h0.size,(h3.kept h0 (fun j e=>.inr (h1 j e).2)).mono h0.size⟩,h.np_,h.nc_,⟨base,hb,ho.kept h0 ?_⟩,h.good,h.few,h.val,h.root_,hT,zD h.gr h0⟩;rcases hv:(Value.slice ca nc cc).ownBlock with _|j
 ·exact .inl rfl
 ·exact .inr (fun e=>by have e:j=tb:=Oj e;have:=(ho.lt j hv).1;omega)
theorem DgD.dia (h:DgD B tb w0 w k pa ca np nc pc cc root L cs):qM w.heap.size w (.agg #[.slice pa np pc,.slice ca nc cc,.int .i64 root]) ⟨famB L,cs,root⟩:=by
 obtain⟨svs,h0,h1⟩:=h.pats;obtain⟨base,_,ho⟩:=h.own;refine⟨_,_,rfl,qA h0 h1 (fun p hp u hu=>by have:=mY (h.good p hp) u hu;omega),?_⟩;have e:=h.nc_;subst e;exact pE ho (Nat.le_refl _)
theorem DgD.small (h:DgD B tb w0 w k pa ca np nc pc cc root L cs):∀ p∈famB L,sY p<=8:=fun p hp=>by
 obtain⟨q,hq,rfl⟩:=List.mem_map.1 hp
 exact good_total (h.good q hq)
theorem ChosO.put {w':World}{g off q f:Nat}{x:Int}(h:ChosO w g off cs)(hq:q<cs.length)(hf:f<3)(hs:∀ i,¬ i=off+q * 3+f->w'.cell? ⟨g,i,none⟩=w.cell? ⟨g,i,none⟩)(hx:w'.cell? ⟨g,off+q * 3+f,none⟩=some (.int .i64 x))(hz:g<w'.heap.size):∃ cs':List ChoV,cs'.length=cs.length/\ChosO w' g off cs':=by
 obtain⟨c,hc⟩:∃ c:ChoV,c=⟨if f=0 then x else (cs.getD q default).p,if f=1 then x else (cs.getD q default).y,if f=2 then x else (cs.getD q default).n⟩:=⟨_,rfl⟩
 have h1:∀ i,i<cs.length->(cs.set q c).getD i default=if i=q then c else cs.getD i default:=fun i hi=>by
  by_cases e:i=q
  ·subst e;rw[if_pos rfl,zG (by rw[List.length_set];exact hi),List.getElem_set_self]
  ·rw[if_neg e,zG (by rw[List.length_set];exact hi),List.getElem_set_ne (fun h=>e h.symm),zG hi]
 have h0:(cs.set q c).length=cs.length:=List.length_set;refine⟨cs.set q c,h0,hz,fun i hi=>?_,fun i hi=>?_,fun i hi=>?_⟩
 all_goals rw[h0]at hi;rw[h1 i hi]
 ·by_cases e:i=q
  ·subst e;rw[if_pos rfl,hc]
   by_cases e0:f=0
   ·subst e0;rw[if_pos rfl];exact hx
   ·rw[if_neg e0,hs _ (by omega)];exact h.p i hi
  ·rw[if_neg e,hs _ (by omega)];exact h.p i hi
 ·by_cases e:i=q
  ·subst e;rw[if_pos rfl,hc]
   by_cases e0:f=1
   ·subst e0;rw[if_pos rfl];exact hx
   ·rw[if_neg e0,hs _ (by omega)];exact h.y i hi
  ·rw[if_neg e,hs _ (by omega)];exact h.y i hi
 ·by_cases e:i=q
  ·subst e;rw[if_pos rfl,hc]
   by_cases e0:f=2
   ·subst e0;rw[if_pos rfl];exact hx
   ·rw[if_neg e0,hs _ (by omega)];exact h.n i hi
  ·rw[if_neg e,hs _ (by omega)];exact h.n i hi
theorem DgD.put (h:DgD B tb w0 w k pa ca np nc pc cc root L cs){q f:Nat}(hq:q<nc)(hf:f<3):∃ kb:Nat,ca=some ⟨kb,0,none⟩/\nc<=cc/\cc<=maxLen/\kb<w.heap.size/\w0.heap.size<=kb/\(∃ y:Int,w.cell? ⟨kb,q * 3+f,none⟩=some (.int .i64 y))/\w.frozen? ⟨kb,q * 3+f,none⟩=false /\
  ∀ x:Int,∃ cs':List ChoV,qM (w.setCell ⟨kb,q * 3+f,none⟩ (.int .i64 x)).heap.size (w.setCell ⟨kb,q * 3+f,none⟩ (.int .i64 x)) (.agg #[.slice pa np pc,.slice ca nc cc,.int .i64 root]) ⟨famB L,cs',root⟩:=by
 obtain⟨svs,h5,h6⟩:=h.pats;obtain⟨base,h8,ho⟩:=h.own;have e:=h.nc_;subst e;have h7:=pE ho (Nat.le_refl _);rcases ho.2 with ⟨h',h0⟩|⟨g,cap,cur,h1,hb,hg,hnc,hcm,_⟩
 ·omega
 ·simp only[Value.slice.injEq]at h1
  obtain⟨rfl,-,rfl⟩:=h1;rcases h7 with ⟨a,c,e1,e2⟩|⟨b2,off,cap2,e1,hb2,hc1,hc2,hco⟩
  ·rw[e2]at hq;simp at hq
  ·simp only[Value.slice.injEq,Option.some.injEq,Addr.mk.injEq]at e1
   obtain⟨⟨rfl,rfl,-⟩,-,rfl⟩:=e1
   have h2:∃ y:Int,w.cell? ⟨g,q * 3+f,none⟩=some (.int .i64 y):=by
    have a0:=hco.p q hq;have a1:=hco.y q hq;have a2:=hco.n q hq;rw[Nat.zero_add]at a0 a1 a2;obtain rfl|rfl|rfl:f=0\/f=1\/f=2:=by omega
    ·exact⟨_,a0⟩
    ·exact⟨_,a1⟩
    ·exact⟨_,a2⟩
   refine⟨g,rfl,hc1,hc2,zI hg,by omega,h2,frozen_of_row w g _ _ _ hg,fun x=>?_⟩;have g1:=zC w ⟨g,q * 3+f,none⟩ (.int .i64 x);have h4:=heap_setCell_same w g (q * 3+f) _ _ (.int .i64 x) hg
   have hi:q * 3+f<cur.size:=by
    obtain⟨y,hy⟩:=h2;rw[cell_of_row w g _ _ _ _ hg]at hy;rcases Nat.lt_or_ge (q * 3+f) cur.size with h|h
    ·exact h
    ·rw[Array.getElem?_eq_none h]at hy;cases hy
   obtain⟨cs',hl,h3⟩:=hco.put (w':=w.setCell ⟨g,q * 3+f,none⟩ (.int .i64 x)) hq hf (fun i hi2=>by
    rw[cell_of_row _ g _ _ _ _ h4,cell_of_row w g _ _ _ _ hg,Array.getElem?_setIfInBounds_ne (by omega)]) (by
    rw[Nat.zero_add,cell_of_row _ g _ _ _ _ h4,Array.getElem?_setIfInBounds_self_of_lt hi]) (Nat.lt_of_lt_of_le (zI hg) g1.size)
   refine⟨cs',_,_,rfl,qA ((h5.kept g1 (fun j e=>.inr (qB hg (by decide) j e))).mono g1.size) ((h6.kept g1 (fun j e=>.inr (qB hg (by decide) j e))).mono g1.size) (fun p hp u hu=>by have:=mY (h.good p hp) u hu;omega),?_⟩;exact .inr ⟨g,0,cc,by rw[hl],Nat.lt_of_lt_of_le (zI hg) g1.size,by show cs'.length<=cc;omega,hc2,h3⟩
end
end Go.Proofs.Ytjfdomfendbhfaa
namespace Go.Proofs.Ytjfdomfendbhfaa
open Go.RowKit Go.Maps
theorem cdfa_reg14 {Q':Exit->Act->World->Prop}{v0 v1 v3 v4 v5 v6 v7 v8 v10 v13 v14 v15 v16 v17 v18 v19 v20 v21 v22 v23 v24 v25 v26 v27 v28 v29 v30 v31 v32 v33 v34 v35 v36 v37 v38 v39 v40 v41 v42 v43 v44 v45 v46 v47 v48 v49 v50 v51 v52 v53 v54 v55 v56 v57 v58 v59 v60 v61 v62 v63 v64 v65 v66 v67 v68 v69 v70 v71 v72 v73 v74 v75 v76 v77 v78 v79 v80:Value}{dd:_}{w:World}{G X M S F i n p2 p3 c2 c3:Nat}{p1 c1:Option Addr}{root:Int}{kv nv:Value}{fs:List Bool}{b:Bool}(hbM:w.heap[M]?=some (.cells #[kv,nv,.slice (some ⟨F,0,none⟩) n n] 113 (0,0)))(hbS:w.heap[S]?=some (.cells #[.int .i64 (i:Int)] 3 (0,0)))(hbG:w.heap[G]?=some (.cells #[.slice p1 p2 p3,.slice c1 c2 c3,.int .i64 root] 25 (0,0)))(hF:Arr w F 4 (bls fs))(hln:fs.length=n)(hi:i<n)(hn:n<=4000)(hne:F≠M)(hdec:∀ W:World,w.grownBy W none->Calls Try.prog 40 #[.agg #[.slice p1 p2 p3,.slice c1 c2 c3,.int .i64 root],.func (.func 68) #[] #[.pointer (some ⟨X,0,none⟩),.pointer (some ⟨S,0,none⟩)]] W fun e w'=>e=.returned (.bool b)/\W.grownBy w' none)(hexit:∀ (z62 z63 z64 z65 z66 z67 z68 z69 z70:Value) (w0 w':World),w.grownBy w0 none->w0.grownBy w' (some F)->w'.heap[M]?=some (.cells #[kv,nv,.slice (some ⟨F,0,none⟩) n n] 113 (0,0))->Arr w' F 4 (bls (fs.set i b))->Q' .normal ⟨(v0::v1::(Value.pointer (some ⟨G,0,none⟩))::v3::v4::v5::v6::v7::v8::(Value.pointer (some ⟨X,0,none⟩))::v10::(Value.pointer (some ⟨M,0,none⟩))::(Value.pointer (some ⟨S,0,none⟩))::v13::v14::v15::v16::v17::v18::v19::v20::v21::v22::v23::v24::v25::v26::v27::v28::v29::v30::v31::v32::v33::v34::v35::v36::v37::v38::v39::v40::v41::v42::v43::v44::v45::v46::v47::v48::v49::v50::v51::v52::v53::v54::v55::v56::v57::v58::v59::v60::v61::z62::z63::z64::z65::z66::z67::z68::z69::z70::v71::v72::v73::v74::v75::v76::v77::v78::v79::v80::[]).toArray,dd⟩ w'):
  Code.wp Try.prog (reg Try.f28 14) Q' ⟨(v0::v1::(Value.pointer (some ⟨G,0,none⟩))::v3::v4::v5::v6::v7::v8::(Value.pointer (some ⟨X,0,none⟩))::v10::(Value.pointer (some ⟨M,0,none⟩))::(Value.pointer (some ⟨S,0,none⟩))::v13::v14::v15::v16::v17::v18::v19::v20::v21::v22::v23::v24::v25::v26::v27::v28::v29::v30::v31::v32::v33::v34::v35::v36::v37::v38::v39::v40::v41::v42::v43::v44::v45::v46::v47::v48::v49::v50::v51::v52::v53::v54::v55::v56::v57::v58::v59::v60::v61::v62::v63::v64::v65::v66::v67::v68::v69::v70::v71::v72::v73::v74::v75::v76::v77::v78::v79::v80::[]).toArray,dd⟩ w:=by
 conv=>arg 2;whnf
 obtain⟨w7,h6⟩:∃ w7,w7=w.drew:=⟨_,rfl⟩;have h1:w.grownBy w7 none:=by rw[h6];exact zP w none
 have H1:=Kh h6;have h3:=Kh h1;have h2:=Kh (zA hbM h1 (by simp));have h4:=Kh (zA hbS h1 (by simp));have h5:=Kh (zA hbG h1 (by simp));have HF:=Kh (hF.kept h1 (by simp));have h9:=Kh hdec;have HE:=Kh hexit;have H2:=Kh hne;have H0:=Kh hln;have C:Hid (w7.cell? ⟨M,2,none⟩=some (.slice (some ⟨F,0,none⟩) n n)/\w7.cell? ⟨S,0,none⟩=some (.int .i64 (i:Int))/\w7.cell? ⟨G,0,none⟩=some (.slice p1 p2 p3)/\w7.cell? ⟨G,1,none⟩=some (.slice c1 c2 c3)/\w7.cell? ⟨G,2,none⟩=some (.int .i64 root)):=Kh ⟨(zH h2.out).2.2,by simpa using zJ h4.out 0 (by simp),zH h5.out⟩;clear h6 h1 hbM hbS hbG hF hdec hexit hne hln;have H5:(i:Int)<n:=by omega
 refine wp_region_noPanic ?_;refine xZ (G:=tG 9 (fun _=>True) (fun W=>W.cell? ⟨M,2,none⟩=some (.slice (some ⟨F,0,none⟩) n n)/\W.cell? ⟨S,0,none⟩=some (.int .i64 (i:Int))/\W.cell? ⟨G,0,none⟩=some (.slice p1 p2 p3)/\W.cell? ⟨G,1,none⟩=some (.slice c1 c2 c3)/\W.cell? ⟨G,2,none⟩=some (.int .i64 root))) (by kernel_rfl) ?_;rw[<- H1.out];refine vX 0 ⟨trivial,fun _=>C.out⟩ ?_;refine vX 1 ⟨trivial,fun _=>C.out⟩ ?_;refine vX 2 ⟨trivial,fun _=>C.out⟩ ?_;refine vX 3 ⟨trivial,fun _=>C.out⟩ ?_;refine vX 4 ⟨trivial,fun _=>C.out⟩ ?_;refine vX 5 ⟨trivial,fun _=>C.out⟩ ?_;refine vX 6 ⟨trivial,fun _=>C.out⟩ ?_;refine oneG (i:=7) (by kernel_rfl) rfl (fun K hK=>?_);go_simp
 go_at_call 40
 refine(h9.out w7 h3.out).mono ?_;rintro e w8 ⟨rfl,h0⟩;have h3:=Kh (zB h3.out h0 (by simp));have h2:=Kh (zA h2.out h0 (by simp));have h4:=Kh (zA h4.out h0 (by simp));have h5:=Kh (zA h5.out h0 (by simp));have HF:=Kh (HF.out.kept h0 (by simp));have C:Hid (w8.cell? ⟨M,2,none⟩=some (.slice (some ⟨F,0,none⟩) n n)/\w8.cell? ⟨S,0,none⟩=some (.int .i64 (i:Int))/\w8.cell? ⟨G,0,none⟩=some (.slice p1 p2 p3)/\w8.cell? ⟨G,1,none⟩=some (.slice c1 c2 c3)/\w8.cell? ⟨G,2,none⟩=some (.int .i64 root)):=Kh ⟨(zH h2.out).2.2,by simpa using zJ h4.out 0 (by simp),zH h5.out⟩;refine hK.out _ _ ⟨trivial,fun _=>C.out⟩ ?_;clear hK K h0
 try simp only[Act.put,sPd,sPe,sPf,sPa,sPb,sPc]
 refine vX 8 ⟨trivial,fun _=>C.out⟩ ?_;obtain⟨cur,rest,h8,h7⟩:=id HF.out;have cF:=HF.out.bool i (by rw[H0.out];exact hi);have fF:=zE h8 i;have H4:=zI h8;clear h8 h7;have H3:=Kh (HF.out.bool_set i (by rw[H0.out];exact hi) b);refine oneG (i:=9) (by kernel_rfl) rfl (fun K hK=>?_);go_simp;refine hK.out _ _ ⟨trivial,fun h=>by cases h⟩ ?_;clear hK K
 try simp only[Act.put,sPd,sPe,sPf,sPa,sPb,sPc]
 refine nE (by kernel_rfl) ?_ _;exact HE.out _ _ _ _ _ _ _ _ _ w8 _ h3.out (zC w8 ⟨F,i,none⟩ (.bool b)) (zA h2.out (zC w8 ⟨F,i,none⟩ (.bool b)) (fun e=>H2.out (Oj e))) H3.out
end Go.Proofs.Ytjfdomfendbhfaa
namespace Go.Proofs.Ytjfdomfendbhfaa
open Go.RowKit Go.Maps
abbrev KR (l:List Nat):Value:=.string (txtT (kbR l))
inductive RPr (w0:World)(B o mb np:Nat)(pv:Value)(L T:List (List Nat))(m q:Nat)(tl:List RowS)(w:World):Prop
 | mk (X:Nat->Prop) (hs hn:List Value) (sS sN:Option Addr) (cS cN u c:Nat)
  (hB:BoxS B X o 88 w0 w (⟨B,34,.slice sS m cS,m,hs,1⟩::⟨B,34,.slice sN q cN,q,hn,1⟩::tl) #[pv,.slice sS m cS,.slice sN q cN] w)
  (hE:uF X 3 nats w hs L) (hN:uF X 3 nats w hn T) (hM:MapK 9 (qK np) KR w mb u c (numE L)) (hmx:¬ X mb) (hmb:w0.heap.size<=mb) (hu:u<=2 * m)
  (hl:L.length=m/\T.length=q) (hhs:hs.length=m/\hn.length=q) (hlo:∀ j,X j->B<=j)
section
variable {w0 w w' w1:World} {B o mb np m q:Nat} {pv:Value} {L T:List (List Nat)} {tl:List RowS}
theorem RPr.grow (h:RPr w0 B o mb np pv L T m q tl w)(hg:w.grownBy w' none):RPr w0 B o mb np pv L T m q tl w':=by
 obtain⟨X,hs,hn,sS,sN,cS,cN,u,c,hB,hE,hN,hM,h1,h2,hu,hl,h4,h3⟩:=h;have h0:=hB.mem.keep hg;exact⟨X,hs,hn,sS,sN,cS,cN,u,c,(hB.grow hg).rebase,hE.kept h0 hg.size,hN.kept h0 hg.size,hM.kept hg (by simp),h1,h2,hu,hl,h4,h3⟩
theorem RPr.facts (h:RPr w0 B o mb np pv L T m q tl w):w0.grownBy w none/\B<=w.heap.size/\w0.heap.size<=B/\w0.heap.size<=o/\o<w.heap.size/\L.length=m/\T.length=q:=by
 obtain⟨X,hs,hn,sS,sN,cS,cN,u,c,hB,hE,hN,hM,h0,h1,hu,hl,h3,h2⟩:=h;exact⟨hB.grown,Nat.le_trans hB.base hB.wk,hB.size,hB.old,zI hB.box,hl.1,hl.2⟩
theorem RPr.map (h:RPr w0 B o mb np pv L T m q tl w):∃ u c,u<=2 * m/\MapK 9 (qK np) KR w mb u c (numE L):=by
 obtain⟨X,hs,hn,sS,sN,cS,cN,u,c,hB,hE,hN,hM,h0,h1,hu,hl,h3,h2⟩:=h;exact⟨u,c,hu,hM⟩
theorem RPr.cells (h:RPr w0 B o mb np pv L T m q tl w):∃ sS cS sN cN,w.heap[o]?=some (.cells #[pv,.slice sS m cS,.slice sN q cN] 88 (0,0))/\(0<m->∃ sb,sS=some ⟨sb,0,none⟩/\m<=cS/\cS<=maxLen/\∀ i,i<m->L.getD i []≠[]->∃ g off cap,w.cell? ⟨sb,i,none⟩=some (.slice (some ⟨g,off,none⟩) (L.getD i []).length cap)/\(L.getD i []).length<=cap/\cap<=maxLen/\∀ j,j<(L.getD i []).length->w.cell? ⟨g,off+j,none⟩=some (.int .i64 (((L.getD i []).getD j 0:Nat):Int))):=by
 obtain⟨X,hs,hn,sS,sN,cS,cN,u,c,hB,hE,hN,hM,h9,H0,hu,hl,H2,H1⟩:=h;refine⟨sS,cS,sN,cN,hB.box,fun h0=>?_⟩;have ho:=hB.own (r:=⟨B,34,.slice sS m cS,m,hs,1⟩) (by simp);simp only at ho;obtain⟨sb,rfl,h1,h2,ha⟩:=wQ ho h0;refine⟨sb,rfl,h1,h2,fun i hi hne=>?_⟩;have h4:i<hs.length:=by omega
 have hr:=hE.2 i h4 (by omega);have h6:L.getD i []=L[i]'(by omega):=zG (by omega)
 have h3:0<(nats (L[i]'(by omega))).length:=by
  rw[zT,<- h6];exact List.length_pos_iff.2 hne
 rw[h6];obtain⟨g,off,cap,e,H3,h5,h8,h7⟩:=hr.1.row.some_ h3;rw[zT]at e h5;refine⟨g,off,cap,?_,h5,h8,fun j hj=>h7.nat j hj⟩;rw[ha.cell i h4,e]
theorem RPr.addRow (h:RPr w0 B o mb np pv L T m q tl w)(hg:w.grownBy w' none){e sz n:Nat}{v:Value}{xs:List Value}(ho:w'.ownsRow w.heap.size e sz v n xs)(he:e≠88):
  RPr w0 B o mb np pv L T m q (tl++[⟨B,e,v,n,xs,sz⟩]) w':=by
 obtain⟨X,hs,hn,sS,sN,cS,cN,u,c,hB,hE,hN,hM,h1,h2,hu,hl,h4,h3⟩:=h;have h0:=hB.mem.keep hg;exact⟨X,hs,hn,sS,sN,cS,cN,u,c,(hB.add hg ho he).rebase,hE.kept h0 hg.size,hN.kept h0 hg.size,hM.kept hg (by simp),h1,h2,hu,hl,h4,h3⟩
theorem RPr.own (h:RPr w0 B o mb np pv L T m q tl w){r:RowS}(hr:r∈tl):w.ownsRow r.base r.e r.sz r.v r.n r.xs:=by
 obtain⟨X,hs,hn,sS,sN,cS,cN,u,c,hB,hE,hN,hM,h0,h1,hu,hl,h3,h2⟩:=h;exact hB.own (List.mem_cons_of_mem _ (List.mem_cons_of_mem _ hr))
theorem RPr.app (h:RPr w0 B o mb np pv L T m q tl w){j:Nat}{r:RowS}(hr:tl[j]?=some r){v':Value}{n':Nat}{us:List Value}(ho:w'.ownsRow r.base r.e r.sz v' n' (r.xs++us))(hg:w.grownBy w' r.v.ownBlock)(hm:qP w w' r.v v'):
  RPr w0 B o mb np pv L T m q (tl.set j ⟨r.base,r.e,v',n',r.xs++us,r.sz⟩) w':=by
 obtain⟨X,hs,hn,sS,sN,cS,cN,u,c,hB,hE,hN,hM,h3,h4,hu,hl,h6,h5⟩:=h;have h0:=List.mem_of_getElem? hr;have h1:r.v.ownBlock≠some mb:=yX (es:=#[]) (clock:=0) (hB.own (List.mem_cons_of_mem _ (List.mem_cons_of_mem _ h0))) hM.obj;have h2:=hB.appAt (j:=j+2) hr ho hg hm;exact⟨X,hs,hn,sS,sN,cS,cN,u,c,h2.rebase,hE.kept h2.kept h2.wk,hN.kept h2.kept h2.wk,hM.kept hg h1,h3,h4,hu,hl,h6,h5⟩
theorem RPr.off (h:RPr w0 B o mb np pv L T m q tl w):o≠mb:=by
 obtain⟨X,hs,hn,sS,sN,cS,cN,u,c,hB,hE,hN,hM,h0,h1,hu,hl,h3,h2⟩:=h;intro e;obtain⟨es,clock,hb⟩:=hM.obj;have:=hB.box;rw[e,hb]at this;simp at this
theorem RPr.pushS {r:RowS}{v:Value}{xs:List Nat}{n u c:Nat}(h:RPr w0 B o mb np pv L T m q (r::⟨B,3,v,n,nats xs,1⟩::[]) w)(hg:w.grownBy w1 (some mb))(hM1:MapK 9 (qK np) KR w1 mb u c (numE (L++[xs])))(hu1:u<=2 * m+1):
  ∃ hs sS cS,w1.ownsRow B 34 1 (.slice sS m cS) m hs/\w1.cell? ⟨o,1,none⟩=some (.slice sS m cS)/\B<=w1.heap.size/\∀ w2 s' c',w2.ownsRow B 34 1 (.slice s' (m+1) c') (m+1) (hs++[v])->w1.grownBy w2 (Value.slice sS m cS).ownBlock->qP w1 w2 (.slice sS m cS) (.slice s' (m+1) c') ->
   w2.cell? ⟨o,1,none⟩=some (.slice sS m cS)/\w2.frozen? ⟨o,1,none⟩=false/\RPr w0 B o mb np pv (L++[xs]) T (m+1) q (r::[]) (w2.setCell ⟨o,1,none⟩ (.slice s' (m+1) c')):=by
 have h2:=h.off;obtain⟨X,hs,hn,sS,sN,cS,cN,u0,c0,hB,hE,hN,hM,h5,h6,hu,hl,h7,H3⟩:=h;have h0:=hB.far hg (fun r hr=>yX (es:=#[]) (clock:=0) (hB.mem.own r hr) hM.obj) h5 h2 h6;have H1:=h0.rebase;have H8:=hE.kept h0.kept h0.wk;have H6:=hN.kept h0.kept h0.wk;have h1:=H1.own (r:=⟨B,3,v,n,nats xs,1⟩) (by simp);have H2:v.ownBlock≠some mb:=yX (es:=#[]) (clock:=0) h1 hM1.obj
 have h3:∀ j,(X j\/v.ownBlock=some j)->B<=j:=fun j hj=>by
  rcases hj with hj|hj
  ·exact H3 j hj
  ·exact(h1.lt j hj).1
 have hR:=BoxS.retire (rs:=(⟨B,34,.slice sS m cS,m,hs,1⟩::⟨B,34,.slice sN q cN,q,hn,1⟩::r::[])) (r:=⟨B,3,v,n,nats xs,1⟩) H1;have h8:=zJ hR.box 1 (by simp);simp only[List.getElem_toArray,List.getElem_cons_zero,List.getElem_cons_succ]at h8;have H5:RowX (fun j=>X j\/v.ownBlock=some j) 3 w1 v (nats xs):=RowX.of_owns h1 (fun j hj=>.inr hj);have h4:=hR.own (r:=⟨B,34,.slice sS m cS,m,hs,1⟩) (by simp);have H4:(Value.slice sS m cS).ownBlock≠some mb:=yX (es:=#[]) (clock:=0) h4 hM1.obj;refine⟨hs,sS,cS,h4,h8,Nat.le_trans hR.base hR.wk,fun w2 s' c' hown hg2 hmv=>?_⟩;have hA:=hR.appAt (j:=0) rfl hown hg2 hmv;have h9:=zJ hA.box 1 (by simp);simp only[List.getElem_toArray,List.getElem_cons_zero,List.getElem_cons_succ]at h9;have hZ:=hA.set 1 (.slice s' (m+1) c');have H0:=fun j hj=>hZ.kept j hj;have H7:=(hM1.kept hg2 H4).kept (zC w2 ⟨o,1,none⟩ (.slice s' (m+1) c')) (fun e=>h2 (Oj e));refine⟨h9,zE hA.box 1,⟨_,hs++[v],hn,s',sN,c',cN,u,c,hZ.rebase,((H8.mono (fun j hj=>.inl hj)).snoc H5).kept H0 hZ.wk,(H6.mono (fun j hj=>.inl hj)).kept H0 hZ.wk,H7,fun e=>?_,h6,by omega,⟨by rw[List.length_append,hl.1];rfl,hl.2⟩,⟨by rw[List.length_append,h7.1];rfl,h7.2⟩,h3⟩⟩;rcases e with e|e
 ·exact h5 e
 ·exact H2 e
theorem RPr.pushN {v:Value}{xs:List Nat}{n:Nat}(h:RPr w0 B o mb np pv L T m q (⟨B,3,v,n,nats xs,1⟩::[]) w):
  ∃ hs sN cN,w.ownsRow B 34 1 (.slice sN q cN) q hs/\w.cell? ⟨o,2,none⟩=some (.slice sN q cN)/\B<=w.heap.size/\∀ w2 s' c',w2.ownsRow B 34 1 (.slice s' (q+1) c') (q+1) (hs++[v])->w.grownBy w2 (Value.slice sN q cN).ownBlock->qP w w2 (.slice sN q cN) (.slice s' (q+1) c') ->
   w2.cell? ⟨o,2,none⟩=some (.slice sN q cN)/\w2.frozen? ⟨o,2,none⟩=false/\RPr w0 B o mb np pv L (T++[xs]) m (q+1) [] (w2.setCell ⟨o,2,none⟩ (.slice s' (q+1) c')):=by
 have h1:=h.off;obtain⟨X,hs,hn,sS,sN,cS,cN,u,c,hB,hE,hN,hM,h9,H0,hu,hl,h4,H1⟩:=h;have h0:=hB.own (r:=⟨B,3,v,n,nats xs,1⟩) (by simp);have h8:v.ownBlock≠some mb:=yX (es:=#[]) (clock:=0) h0 hM.obj
 have h2:∀ j,(X j\/v.ownBlock=some j)->B<=j:=fun j hj=>by
  rcases hj with hj|hj
  ·exact H1 j hj
  ·exact(h0.lt j hj).1
 have hR:=BoxS.retire (rs:=(⟨B,34,.slice sS m cS,m,hs,1⟩::⟨B,34,.slice sN q cN,q,hn,1⟩::[])) (r:=⟨B,3,v,n,nats xs,1⟩) hB;have h5:=zJ hR.box 2 (by simp);simp only[List.getElem_toArray,List.getElem_cons_zero,List.getElem_cons_succ]at h5;have H2:RowX (fun j=>X j\/v.ownBlock=some j) 3 w v (nats xs):=RowX.of_owns h0 (fun j hj=>.inr hj);have h3:=hR.own (r:=⟨B,34,.slice sN q cN,q,hn,1⟩) (by simp);have H3:(Value.slice sN q cN).ownBlock≠some mb:=yX (es:=#[]) (clock:=0) h3 hM.obj;refine⟨hn,sN,cN,h3,h5,Nat.le_trans hR.base hR.wk,fun w2 s' c' hown hg2 hmv=>?_⟩;have hA:=hR.appAt (j:=1) rfl hown hg2 hmv;have h6:=zJ hA.box 2 (by simp);simp only[List.getElem_toArray,List.getElem_cons_zero,List.getElem_cons_succ]at h6;have hZ:=hA.set 2 (.slice s' (q+1) c');have h7:=fun j hj=>hZ.kept j hj;have H4:=(hM.kept hg2 H3).kept (zC w2 ⟨o,2,none⟩ (.slice s' (q+1) c')) (fun e=>h1 (Oj e));refine⟨h6,zE hA.box 2,⟨_,hs,hn++[v],sS,s',cS,c',u,c,hZ.rebase,(hE.mono (fun j hj=>.inl hj)).kept h7 hZ.wk,((hN.mono (fun j hj=>.inl hj)).snoc H2).kept h7 hZ.wk,H4,fun e=>?_,H0,hu,⟨hl.1,by rw[List.length_append,hl.2];rfl⟩,⟨h4.1,by rw[List.length_append,h4.2];rfl⟩,h2⟩⟩;rcases e with e|e
 ·exact h9 e
 ·exact h8 e
theorem RPr.drop {r:RowS}(h:RPr w0 B o mb np pv L T m q (tl++[r]) w):RPr w0 B o mb np pv L T m q tl w:=by
 obtain⟨X,hs,hn,sS,sN,cS,cN,u,c,hB,hE,hN,hM,h3,h4,hu,hl,h6,h5⟩:=h;have h0:=hB.own (r:=r) (by simp);have h2:r.v.ownBlock≠some mb:=yX (es:=#[]) (clock:=0) h0 hM.obj
 have h1:∀ j,(X j\/r.v.ownBlock=some j)->B<=j:=fun j hj=>by
  rcases hj with hj|hj
  ·exact h5 j hj
  ·rw[<- (hB.typ r (by simp)).1];exact(h0.lt j hj).1
 have hR:=BoxS.retire (rs:=(⟨B,34,.slice sS m cS,m,hs,1⟩::⟨B,34,.slice sN q cN,q,hn,1⟩::tl)) (r:=r) hB;refine⟨_,hs,hn,sS,sN,cS,cN,u,c,hR,hE.mono (fun j hj=>.inl hj),hN.mono (fun j hj=>.inl hj),hM,fun e=>?_,h4,hu,hl,h6,h1⟩;rcases e with e|e
 ·exact h3 e
 ·exact h2 e
def qIF (B:Nat)(w:World)(v pv:Value)(L T:List (List Nat)):Prop:=∃ sS sN cS cN hs hn,v=.agg #[pv,.slice sS L.length cS,.slice sN T.length cN]/\w.ownsRow B 34 1 (.slice sS L.length cS) L.length hs/\w.ownsRow B 34 1 (.slice sN T.length cN) T.length hn/\xY w.heap.size 3 nats w hs L/\xY w.heap.size 3 nats w hn T
theorem RPr.val (h:RPr w0 B o mb np pv L T m q tl w):∃ sS sN cS cN,w.heap[o]?=some (.cells #[pv,.slice sS L.length cS,.slice sN T.length cN] 88 (0,0))/\∀ w2 row,w.grownBy w2 row->(∀ j,row=some j->j<B)->qIF B w2 (.agg #[pv,.slice sS L.length cS,.slice sN T.length cN]) pv L T:=by
 obtain⟨X,hs,hn,sS,sN,cS,cN,u,c,hB,hE,hN,hM,h1,h2,hu,⟨rfl,rfl⟩,h3,h0⟩:=h;refine⟨sS,sN,cS,cN,hB.box,fun w2 row hg hr=>?_⟩;have hk:vR X w w2:=vR.of_grown hB.mem.lt hg (fun j e hx=>by have:=hr j e;have:=h0 j hx;omega);exact⟨sS,sN,cS,cN,hs,hn,rfl,yM (hB.own (r:=⟨B,34,.slice sS L.length cS,L.length,hs,1⟩) (by simp)) hg hr,yM (hB.own (r:=⟨B,34,.slice sN T.length cN,T.length,hn,1⟩) (by simp)) hg hr,(hE.kept hk hg.size).rowsT,(hN.kept hk hg.size).rowsT⟩
end
end Go.Proofs.Ytjfdomfendbhfaa
namespace Go.Proofs.Ytjfdomfendbhfaa
open Go.RowKit Go.Maps
theorem rbox_start {w0 wa:World}{o np:Nat}{pv:Value}{s:Option Addr}{c:Nat}{x0:List Nat}(hg:w0.grownBy wa none)(hown:wa.ownsRow w0.heap.size 3 1 (.slice s np c) np (nats x0))(hb:wa.heap[o]?=some (.cells #[pv,.slice none 0 0,.slice none 0 0] 88 (0,0)))(ho:w0.heap.size<=o){w2:World}(hw2:w2=(wa.alloc (.cells #[.slice s np c] 34)).setCell ⟨o,1,none⟩ (.slice (some ⟨wa.heap.size,0,none⟩) 1 1)):
  ∃ X,BoxS w0.heap.size X o 88 w0 w2 (⟨w0.heap.size,34,.slice (some ⟨wa.heap.size,0,none⟩) 1 1,1,[.slice s np c],1⟩::⟨w0.heap.size,34,.slice none 0 0,0,[],1⟩::[]) #[pv,.slice (some ⟨wa.heap.size,0,none⟩) 1 1,.slice none 0 0] w2
  /\ uF X 3 nats w2 [.slice s np c] [x0]/\(∀ j,X j->w0.heap.size<=j/\j<w2.heap.size):=by
 obtain⟨w1,h1⟩:∃ w1,w1=wa.alloc (.cells #[.slice s np c] 34):=⟨_,rfl⟩;rw[<- h1]at hw2;have g1:wa.grownBy w1 none:=by rw[h1];exact Ga _ _ _
 have h3:1<=maxLen:=by unfold maxLen;omega
 have o1:w1.ownsRow wa.heap.size 34 1 (.slice (some ⟨wa.heap.size,0,none⟩) 1 1) 1 [.slice s np c]:=by rw[h1];exact World.ownsRow_lit wa #[_] 1 (Nat.le_refl _) h3 rfl
 have d1:(34:Nat)≠88:=by decide
 have d2:(3:Nat)≠88:=by decide
 have h2:(Value.slice s np c).ownBlock≠some o:=zS hown hb d2;have h0:=yM hown g1 (by simp);have m0:EMem (fun j=>(Value.slice s np c).ownBlock=some j) wa []:=⟨fun r hr=>by simp at hr,List.Pairwise.nil,fun r hr=>by simp at hr,fun k hk=>(hown.lt k hk).2⟩;have m1:=m0.add g1 (r:=⟨w0.heap.size,34,.slice (some ⟨wa.heap.size,0,none⟩) 1 1,1,[.slice s np c],1⟩) (xN (base':=w0.heap.size) o1 hg.size) (fun k hk=>(o1.lt k hk).1);have m2:=m1.add (zM w1 none) (r:=⟨w0.heap.size,34,.slice none 0 0,0,[],1⟩) (World.ownsRow_nil _ _ _ _) (fun k hk=>by simp[Value.ownBlock]at hk)
 have hB:BoxS w0.heap.size (fun j=>(Value.slice s np c).ownBlock=some j) o 88 w0 w1 (⟨w0.heap.size,34,.slice (some ⟨wa.heap.size,0,none⟩) 1 1,1,[.slice s np c],1⟩::⟨w0.heap.size,34,.slice none 0 0,0,[],1⟩::[]) #[pv,.slice none 0 0,.slice none 0 0] w1:=by
  refine⟨m2,fun r hr=>?_,zA hb g1 (by simp),h2,Nat.le_refl _,ho,Nat.le_trans hg.size g1.size,zB hg g1 (by simp),vR.refl _ _,Nat.le_refl _⟩;simp only[List.nil_append,List.cons_append,List.mem_cons,List.not_mem_nil,or_false]at hr;rcases hr with rfl|rfl
  ·exact⟨rfl,d1⟩
  ·exact⟨rfl,d1⟩
 have hS:=hB.set 1 (.slice (some ⟨wa.heap.size,0,none⟩) 1 1);rw[<- hw2]at hS;exact⟨_,hS.rebase,(uF.nil.snoc (RowX.of_owns h0 (fun k hk=>hk))).kept hS.kept hS.wk,fun j hj=>⟨(hown.lt j hj).1,hS.mem.lt j hj⟩⟩
theorem rpr_start {w0 w2 w8:World}{X:Nat->Prop}{o mb np u c:Nat}{pv:Value}{rs:Value}{sb:Nat}{x0:List Nat}(hB:BoxS w0.heap.size X o 88 w0 w2 (⟨w0.heap.size,34,.slice (some ⟨sb,0,none⟩) 1 1,1,[rs],1⟩::⟨w0.heap.size,34,.slice none 0 0,0,[],1⟩::[]) #[pv,.slice (some ⟨sb,0,none⟩) 1 1,.slice none 0 0] w2)(hE:uF X 3 nats w2 [rs] [x0])(hX:∀ j,X j->w0.heap.size<=j/\j<w2.heap.size)(hmb:w2.heap.size<=mb)(hg:w2.grownBy w8 (some mb))(hM:MapK 9 (qK np) KR w8 mb u c (numE [x0]))(hu:u<=2):RPr w0 w0.heap.size o mb np pv [x0] [] 1 0 [] w8:=by
 have h1:=zI hB.box;have h0:¬ X mb:=fun e=>by have:=(hX mb e).2;omega
 have h8:=hB.far hg (fun r hr e=>by have:=(hB.mem.own r hr).lt mb e;omega) h0 (by omega) (by have:=hB.grown.size;omega);exact⟨X,[rs],[],_,_,_,_,u,c,h8.rebase,hE.kept h8.kept h8.wk,uF.nil,hM,h0,by have:=hB.grown.size;omega,by omega,⟨rfl,rfl⟩,⟨rfl,rfl⟩,fun j hj=>(hX j hj).1⟩
end Go.Proofs.Ytjfdomfendbhfaa
