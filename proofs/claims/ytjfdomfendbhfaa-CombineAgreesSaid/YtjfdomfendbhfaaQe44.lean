/- Part 44 of the proof: Less, FamOrd, FamRef. -/
import Derived.Test.YtjfdomfendbhfaaQe43
set_option linter.unusedVariables false
set_option linter.unusedSimpArgs false
namespace Go.Proofs.Ytjfdomfendbhfaa
open Go.RowKit
theorem blk_drop {p q:List (List Int)} {k:Nat} (hp:k < p.length) (hq:k < q.length):yJ (p.drop k) (q.drop k)=(tN p[k] q[k] || (decide (p[k]=q[k]) && yJ (p.drop (k+1)) (q.drop (k+1)))):=by
 rw[List.drop_eq_getElem_cons hp,List.drop_eq_getElem_cons hq];rfl
theorem cmpI_cases (u v:List Int):(cmpI u v = -1/\tN u v=true)\/(cmpI u v=0/\u=v/\tN u v=false)\/(cmpI u v=1/\tN u v=false/\u≠v):=by
 unfold cmpI
 cases h:tN u v with
 | true=>exact .inl ⟨by simp,rfl⟩
 | false =>
  by_cases e:u=v
  ·exact .inr (.inl ⟨by simp[e],e,rfl⟩)
  ·exact .inr (.inr ⟨by simp[e],rfl,e⟩)
theorem dA {b off:Nat} {w:World} {ls:List (List Int)} (hra:vH w b off (strs ls)) {i:Nat} (hi:i < ls.length):w.cell? ⟨b,off+i,none⟩=some (.string (strOfNums ls[i])):=hra.map i hi
set_option maxRecDepth 100000 in
set_option maxHeartbeats 1000000 in
theorem aJ (B1 B2:Nat) (w:World) (v1 v2:Value) (p q:List (List Int)) (h1:Row B1 w v1 (strs p)) (h2:Row B2 w v2 (strs q)) (hp:∀ u∈p,okW u/\u.length<=8) (hq:∀ u∈q,okW u/\u.length<=8) (hpl:p.length<=100) (hql:q.length<=100) :
  Calls Try.prog 78 #[.agg #[v1],.agg #[v2]] w fun e w'=>e=.returned (.bool (xR p q))/\w.grownBy w' none:=by
 have H1:=Kh h1;have H2:=Kh h2;have HP:=Kh hp;have HQ:=Kh hq
 obtain⟨a1,c1,rfl⟩:=h1.shape
 obtain⟨a2,c2,rfl⟩:=h2.shape
 rw[wE]at H1 H2 ⊢
 rw[wE]
 clear h1 h2 hp hq
 obtain⟨P,hP⟩:∃ P,P=w.heap.size:=⟨_,rfl⟩
 obtain⟨wA,h8⟩:∃ wA,wA=(w.alloc (.cells #[.slice a1 p.length c1] 28)).alloc (.cells #[.slice a2 q.length c2] 28):=⟨_,rfl⟩
 have b1:=zA (heap_alloc_new w (.cells #[.slice a1 p.length c1] 28)) (Ga _ (.cells #[.slice a2 q.length c2] 28) none) (by simp)
 have b2:=heap_alloc_new (w.alloc (.cells #[.slice a1 p.length c1] 28)) (.cells #[.slice a2 q.length c2] 28)
 rw[zM]at b2
 rw[<- h8,<- hP]at b1 b2
 have H3:w.grownBy wA none:=by rw[h8];exact xO (Ga w _ none) _
 have h3:=Kh H3;have H6:=Kh h8;have H7:=Kh hP;have a0:=Kh b1;have H9:=Kh b2
 clear H3 h8 hP b1 b2
 go_enter Try.func78,Try.ntmps78
 go_upto_region 1 with fail
 rw[<- H6.out,<- H7.out]
 have k1:=zK a0.out 0 (by simp)
 have k2:=zK H9.out 0 (by simp)
 simp only[List.getElem_toArray,List.getElem_cons_zero]at k1 k2
 by_cases hl:p.length=q.length
 ·have H4:((p.length:Int) != (q.length:Int))=false:=by rw[hl];simp
  go_wp2
  go_loopg [24] p.length (fun gh i wr=>∃ (k m:Nat),gh+k=p.length/\i=.int .i64 (k:Int)/\Hid (xR p q=yJ (p.drop k) (q.drop k))/\wr=wA.drewN m)
  case atStart=>exact⟨0,0,rfl,rfl,Kh (by simp[xR,hl]),rfl⟩
  case round =>
   obtain⟨k,m,H0,rfl,h7,rfl⟩:=hrel
   have H8:=Kh H0
   clear H0
   by_cases hk:k < p.length
   ·have a5:(k:Int) < p.length:=by omega
    have h9:k < q.length:=by omega
    have H5:(k:Int) < q.length:=by omega
    obtain⟨b1,o1,d1,e1,_,f1,g1,r1⟩:=(H1.out.kept h3.out (by simp)).some_ (by rw[wE];omega)
    obtain⟨b2,o2,d2,e2,_,f2,g2,r2⟩:=(H2.out.kept h3.out (by simp)).some_ (by rw[wE];omega)
    rw[wE]at e1 f1 e2 f2
    simp only[Value.slice.injEq]at e1 e2
    obtain⟨rfl,_,rfl⟩:=e1
    obtain⟨rfl,_,rfl⟩:=e2
    have x1:=dA r1 hk
    have x2:=dA r2 h9
    have a4:c1<=9223372036854775807:=by unfold maxLen at g1;omega
    have a3:c2<=9223372036854775807:=by unfold maxLen at g2;omega
    have hu:=HP.out _ (List.getElem_mem hk)
    have hv:=HQ.out _ (List.getElem_mem h9)
    have h0:=blk_drop hk h9
    obtain⟨u,h6⟩:∃ u,u=p[k]:=⟨_,rfl⟩
    obtain⟨v,h5⟩:∃ v,v=q[k]:=⟨_,rfl⟩
    rw[<- h6]at x1 hu h0
    rw[<- h5]at x2 hv h0
    have h4:∀ W:World,Hid (Calls Try.prog 98 #[.string (strOfNums u),.string (strOfNums v)] W fun e w'=>e=.returned (.int .i64 (cmpI u v))/\W=w'):=fun W=>Kh (compare_any u v W (by omega) (by omega) hu.1 hv.1)
    rcases cmpI_cases u v with ⟨hc,hw⟩|⟨hc,he,hw⟩|⟨hc,hw,he⟩
    ·have HR:Hid (xR p q=true):=Kh (by rw[h7.out,h0,hw];rfl)
     rw[hc]at h4
     clear r1 r2 g1 g2 hu hv h0 h6 h5 hw hc
     go_wp2
     go_quiet ((go_at_call 98;exact uJ (h4 _).out))
     go_wp2
     go_ret
     exact⟨yD HR.out.symm,zB h3.out (zU wA _ none) (by simp)⟩
    ·have HR:Hid (xR p q=yJ (p.drop (k+1)) (q.drop (k+1))):=Kh (by rw[h7.out,h0,hw,decide_eq_true he];rfl)
     rw[hc]at h4
     clear r1 r2 g1 g2 hu hv h0 h6 h5 hw hc he
     go_wp2
     go_quiet ((go_at_call 98;exact uJ (h4 _).out))
     go_wp2
     go_roundg (p.length - (k+1))
     case measure=>have:=H8.out;omega
     case rel=>exact⟨k+1,_,by omega,by go_num,HR,rfl⟩
    ·have HR:Hid (xR p q=false):=Kh (by rw[h7.out,h0,hw,decide_eq_false he];rfl)
     rw[hc]at h4
     clear r1 r2 g1 g2 hu hv h0 h6 h5 hw hc he
     go_wp2
     go_quiet ((go_at_call 98;exact uJ (h4 _).out))
     go_wp2
     go_ret
     exact⟨yD HR.out.symm,zB h3.out (zU wA _ none) (by simp)⟩
   ·have HR:Hid (xR p q=false):=Kh (by rw[h7.out,List.drop_of_length_le (by omega)];rfl)
    go_wp2
    go_ret
    exact⟨yD HR.out.symm,zB h3.out (zU wA _ none) (by simp)⟩
 ·have H4:((p.length:Int) != (q.length:Int))=true:=by rw[bne_iff_ne];omega
  have HR:Hid (xR p q=decide (p.length < q.length)):=Kh (by
   rw[xR,decide_eq_false hl,Bool.false_and,Bool.or_false])
  go_wp2
  go_ret
  exact⟨yD (by rw[HR.out]),h3.out⟩
end Go.Proofs.Ytjfdomfendbhfaa
namespace Go.Proofs.Ytjfdomfendbhfaa
theorem dQ:∀ (w x y:List Int),lexZ (w ++ x) (w ++ y)=lexZ x y
 | [],_,_=>rfl
 | a :: w,x,y=>by simp[lexZ,dQ w x y]
theorem hH:∀ (w v x y:List Int),w.length=v.length->lexZ w v=true->lexZ (w ++ x) (v ++ y)=true
 | [],[],_,_,_,h=>by simp[lexZ]at h
 | [],_ :: _,_,_,h,_=>by simp at h
 | _ :: _,[],_,_,h,_=>by simp at h
 | a :: w,b :: v,x,y,hl,h=>by
  simp only[List.cons_append,lexZ,Bool.or_eq_true,Bool.and_eq_true,decide_eq_true_eq]at h ⊢
  rcases h with h|⟨rfl,h⟩
  ·exact .inl h
  ·exact .inr ⟨rfl,hH w v x y (by simpa using hl) h⟩
theorem block_sorted (letters:Nat) (w:List Int):(block letters w 0).Pairwise (fun a b=>lexZ a b=true):=by
 rw[block,List.pairwise_map]
 refine List.Pairwise.imp ?_ (List.pairwise_lt_range' (s:=0) (n:=letters - 0) (step:=1) )
 intro a b h
 rw[dQ]
 simp[lexZ];omega
theorem kY {letters:Nat} {w x:List Int} (h:x∈block letters w 0):∃ c:Int,x=w ++ [c]:=by
 obtain⟨c,_,rfl⟩:=List.mem_map.1 h
 exact⟨_,rfl⟩
theorem iX (letters:Nat):∀ n,(lex letters n).Pairwise (fun a b=>lexZ a b=true)
 | 0=>by simp[lex]
 | n+1=>by
  rw[fL,List.pairwise_flatMap]
  refine⟨fun w _=>block_sorted letters w,?_⟩
  have ih:=iX letters n
  refine List.Pairwise.imp_of_mem ?_ ih
  intro a b ha hb hab x hx y hy
  obtain⟨c,rfl⟩:=kY hx
  obtain⟨d,rfl⟩:=kY hy
  exact hH a b [c] [d] (by rw[(tW ha).1,(tW hb).1]) hab
def lT (l:List (List Int)):Prop:=l.Pairwise (fun a b=>tN a b=true)
def tB (l:List (List (List Int))):Prop:=l.Pairwise (fun a b=>xR a b=true)
theorem oD (letters:Nat):∀ n,lT (upTo letters n)
 | 0=>by simp[upTo,lT]
 | n+1=>by
  rw[xH,lT,List.pairwise_append]
  refine⟨oD letters n,?_,fun a ha b hb=>?_⟩
  ·refine List.Pairwise.imp_of_mem ?_ (iX letters n)
   intro a b ha hb h
   simp only[tN,Bool.or_eq_true,Bool.and_eq_true,decide_eq_true_eq]
   exact .inr ⟨by rw[(tW ha).1,(tW hb).1],h⟩
  ·simp only[tN,Bool.or_eq_true,decide_eq_true_eq]
   exact .inl (by rw[(tW hb).1];exact oF ha)
theorem kH (letters n:Nat):∃ r,upTo letters (n+1)=[] :: r/\∀ u∈r,u≠[]:=by
 have e:=nF letters n
 refine⟨_,e,fun u hu=>?_⟩
 obtain⟨w,_,hx⟩:=List.mem_flatMap.1 hu
 obtain⟨c,rfl⟩:=kY hx
 simp
def mono (f:List Int->List (List Int)):Prop:=∀ u v,tN u v=true->xR (f u) (f v)=true
theorem lZ:mono oneB:=fun u v h=>by simp[xR,oneB,yJ,h]
theorem mono_pre:mono preB:=fun u v h=>by simp[xR,preB,yJ,h]
theorem mono_suf:mono sufB:=fun u v h=>by simp[xR,sufB,yJ,h,sJ]
theorem mono_fac:mono facB:=fun u v h=>by simp[xR,facB,yJ,h,sJ]
theorem qAD (w x y:List (List Int)):yJ (w ++ x) (w ++ y)=yJ x y:=by
 induction w with
 | nil=>rfl
 | cons a w ih=>simp[yJ,sJ,ih]
theorem jW:∀ (w v x y:List (List Int)),w.length=v.length->yJ w v=true->yJ (w ++ x) (v ++ y)=true
 | [],_,_,_,_,h=>by simp[yJ]at h
 | _ :: _,[],_,_,h,_=>by simp at h
 | a :: w,b :: v,x,y,hl,h=>by
  simp only[List.cons_append,yJ,Bool.or_eq_true,Bool.and_eq_true,decide_eq_true_eq]at h ⊢
  rcases h with h|⟨rfl,h⟩
  ·exact .inl h
  ·exact .inr ⟨rfl,jW w v x y (by simpa using hl) h⟩
theorem jV:∀ u v:List Int,u.length=v.length->lexZ u v=true->yJ (u.map fun c=>[c]) (v.map fun c=>[c])=true
 | [],[],_,h=>by simp[lexZ]at h
 | [],_ :: _,h,_=>by simp at h
 | _ :: _,[],h,_=>by simp at h
 | a :: x,b :: y,hl,h=>by
  simp only[lexZ,Bool.or_eq_true,Bool.and_eq_true,decide_eq_true_eq]at h
  simp only[List.map_cons,yJ,Bool.or_eq_true,Bool.and_eq_true,decide_eq_true_eq]
  rcases h with h|⟨rfl,h⟩
  ·exact .inl (by simp[tN,lexZ,h])
  ·exact .inr ⟨rfl,jV x y (by simpa using hl) h⟩
theorem mono_piece:mono tC:=fun u v h=>by
 simp only[tN,Bool.or_eq_true,Bool.and_eq_true,decide_eq_true_eq]at h
 simp only[xR,Bool.or_eq_true,Bool.and_eq_true,decide_eq_true_eq,tC,List.length_append,List.length_map,List.length_singleton]
 rcases h with h|⟨e,h⟩
 ·exact .inl (by omega)
 ·refine .inr ⟨by omega,?_⟩
  rw[List.append_assoc,List.append_assoc,qAD]
  exact jW _ _ _ _ (by simp[e]) (jV u v e h)
theorem sG {f:List Int->List (List Int)} (hf:mono f) {l:List (List Int)} (h:lT l):tB (l.map f):=by
 rw[tB,List.pairwise_map]
 exact List.Pairwise.imp (fun h=>hf _ _ h) h
theorem eX {l:List (List Int)} (h:lT l) (n:Nat):lT (l.drop n):=List.Pairwise.drop h
theorem uQ {a b:List (List (List Int))} (ha:tB a) (hb:tB b) (h:∀ p∈a,∀ q∈b,xR p q=true):tB (a ++ b):=by
 rw[tB,List.pairwise_append];exact⟨ha,hb,h⟩
theorem qV {p q:List (List Int)} (h:p.length < q.length):xR p q=true:=by simp[xR,h]
theorem suf_pre {u v:List Int} (hv:v≠[]):xR (sufB u) (preB v)=true:=by
 have:0 < v.length:=List.length_pos_iff.2 hv
 simp[xR,sufB,preB,yJ,tN,this]
theorem jG {bs:List (List (List Int))} {ws:List (List Int)} {n:Nat} (hb:tB bs) (hw:lT ws) (hl:∀ b∈bs,b.length=n):tB (exts bs ws):=by
 rw[tB,exts,List.pairwise_flatMap]
 refine⟨fun b _=>?_,?_⟩
 ·rw[List.pairwise_map]
  refine List.Pairwise.imp ?_ hw
  intro u v h
  simp only[xR,Bool.or_eq_true,Bool.and_eq_true,decide_eq_true_eq]
  exact .inr ⟨by simp,by rw[qAD];simp[yJ,h]⟩
 ·refine List.Pairwise.imp_of_mem ?_ hb
  intro a b ha h0 h x hx y hy
  obtain⟨u,_,rfl⟩:=List.mem_map.1 hx
  obtain⟨v,_,rfl⟩:=List.mem_map.1 hy
  have e:a.length=b.length:=by rw[hl a ha,hl b h0]
  simp only[xR,Bool.or_eq_true,Bool.and_eq_true,decide_eq_true_eq]at h ⊢
  rcases h with h|⟨_,h⟩
  ·omega
  ·exact .inr ⟨by simp[e],jW a b _ _ e h⟩
theorem gG {ws:List (List Int)} (hw:lT ws):∀ i,tB (chB ws i)
 | 0=>sG lZ hw
 | i+1=>jG (gG hw i) (eX hw 1) (fun _ h=>jR i h)
theorem lL {ws:List (List Int)} {i:Nat} {p:List (List Int)} (h:p∈exts (chB ws i) ws):p.length=i+2:=by
 obtain⟨c,hc,hb⟩:=List.mem_flatMap.1 h
 obtain⟨u,_,rfl⟩:=List.mem_map.1 hb
 rw[List.length_append,jR i hc];rfl
theorem jQ {ws:List (List Int)}:∀ {i:Nat} {p:List (List Int)},p∈chL ws i->p.length<=i+1
 | 0,p,h=>by
  obtain⟨u,_,rfl⟩:=List.mem_map.1 h;exact Nat.le_refl _
 | i+1,p,h=>by
  rcases List.mem_append.1 h with h|h
  ·have:=jQ h;omega
  ·rw[lL h];omega
theorem gF {ws:List (List Int)} (hw:lT ws):∀ i,tB (chL ws i)
 | 0=>sG lZ hw
 | i+1=>uQ (gF hw i) (jG (gG hw i) hw (fun _ h=>jR i h)) (fun p hp q hq=>qV (by have:=jQ hp;rw[lL hq];omega))
theorem drop_ne {letters n:Nat} {u:List Int} (h:u∈(upTo letters (n+1)).drop 1):u≠[]:=by
 obtain⟨r,e,hr⟩:=kH letters n
 rw[e]at h;exact hr u (by simpa using h)
theorem jF (kind:Int) (letters k m:Nat):tB (famP kind letters k m):=by
 have hW:lT (yP letters k):=oD letters (k+1)
 have hS:lT (upTo letters k):=oD letters k
 have hD:lT ((yP letters k).drop 1):=eX hW 1
 have h0:∀ u∈(yP letters k).drop 1,u≠[]:=fun u h=>drop_ne h
 have l1:∀ p∈(upTo letters k).map oneB,p.length=1:=fun p hp=>by obtain⟨u,_,rfl⟩:=List.mem_map.1 hp;rfl
 have l2:∀ p∈((yP letters k).drop 1).map preB,p.length=2:=fun p hp=>by obtain⟨u,_,rfl⟩:=List.mem_map.1 hp;rfl
 have l3:∀ p∈((yP letters k).drop 1).map sufB,p.length=2:=fun p hp=>by obtain⟨u,_,rfl⟩:=List.mem_map.1 hp;rfl
 have l4:∀ p∈((yP letters k).drop 1).map facB,p.length=3:=fun p hp=>by obtain⟨u,_,rfl⟩:=List.mem_map.1 hp;rfl
 have h1:∀ p∈((yP letters k).drop 1).map sufB,∀ q∈((yP letters k).drop 1).map preB,xR p q=true:=fun p hp q hq=>by
  obtain⟨u,_,rfl⟩:=List.mem_map.1 hp
  obtain⟨v,hv,rfl⟩:=List.mem_map.1 hq
  exact suf_pre (h0 v hv)
 have A:=sG lZ hS
 have S:=sG mono_suf hD
 have P:=sG mono_pre hD
 have F:=sG mono_fac hD
 have AS:=uQ A S (fun p hp q hq=>qV (by rw[l1 p hp,l3 q hq];decide))
 have ASP:=uQ AS P (fun p hp q hq=>by
  rcases List.mem_append.1 hp with h|h
  ·exact qV (by rw[l1 p h,l2 q hq];decide)
  ·exact h1 p h q hq)
 unfold famP
 simp only
 split
 ·exact sG lZ hW
 split
 ·exact uQ A P (fun p hp q hq=>qV (by rw[l1 p hp,l2 q hq];decide))
 split
 ·exact AS
 split
 ·exact ASP
 split
 ·refine uQ ASP F (fun p hp q hq=>qV ?_)
  rw[l4 q hq]
  rcases List.mem_append.1 hp with h|h
  ·rcases List.mem_append.1 h with h|h
   ·rw[l1 p h];decide
   ·rw[l3 p h];decide
  ·rw[l2 p h];decide
 split
 ·exact sG mono_piece hD
 ·exact gF hW _
end Go.Proofs.Ytjfdomfendbhfaa
namespace Go.Proofs.Ytjfdomfendbhfaa
def genU (kind:Int) (k:Nat) (u:List Int):List (List (List Int)) :=
 (if kind=1\/kind=7\/(kind≠6/\u.length < k) then [oneB u] else []) ++ (if u=[] then [] else (if kind=2\/kind=4\/kind=5 then [preB u] else []) ++ ((if kind=3\/kind=4\/kind=5 then [sufB u] else []) ++ ((if kind=5 then [facB u] else []) ++ (if kind=6 then [tC u] else []))))
def genL (kind:Int) (k:Nat) (W:List (List Int)):List (List (List Int)):=W.flatMap (genU kind k)
def refL (kind:Int) (letters k m:Nat):List (List (List Int)):=genL kind k (yP letters k) ++ (if kind=7 then (allC (yP letters k) (m+1)).take 301 else [])
theorem cJ (kind:Int) (k:Nat) {W:List (List Int)} {j:Nat} (h:j < W.length):genL kind k (W.take (j+1))=genL kind k (W.take j) ++ genU kind k W[j]:=by
 rw[genL,List.take_succ_eq_append_getElem h,List.flatMap_append];simp[genL]
theorem uR {α β:Type} (f g:α->List β):∀ l:List α,(l.flatMap fun x=>f x ++ g x).Perm (l.flatMap f ++ l.flatMap g)
 | []=>by simp
 | a :: l=>by
  simp only[List.flatMap_cons]
  have ih:=uR f g l
  have h1:(f a ++ g a ++ l.flatMap fun x=>f x ++ g x).Perm (f a ++ g a ++ (l.flatMap f ++ l.flatMap g)):=List.Perm.append_left _ ih
  refine h1.trans ?_
  rw[List.append_assoc,List.append_assoc]
  refine List.Perm.append_left _ ?_
  rw[<- List.append_assoc,<- List.append_assoc]
  exact List.Perm.append_right _ List.perm_append_comm
theorem qBG {α β:Type} (c:α->Prop) [DecidablePred c] (h:α->β):∀ l:List α,(l.flatMap fun x=>if c x then [h x] else [])=(l.filter fun x=>decide (c x)).map h
 | []=>rfl
 | a :: l=>by
  simp only[List.flatMap_cons,qBG c h l,List.filter_cons]
  by_cases hc:c a <;> simp[hc]
theorem filter_short (letters k:Nat):((yP letters k).filter fun u=>decide (u.length < k))=upTo letters k:=by
 rw[yP,xH,List.filter_append]
 have e1:(upTo letters k).filter (fun u=>decide (u.length < k))=upTo letters k:=List.filter_eq_self.2 fun u hu=>by simpa using oF hu
 have e2:(lex letters k).filter (fun u=>decide (u.length < k))=[]:=List.filter_eq_nil_iff.2 fun u hu=>by rw[(tW hu).1];simp
 rw[e1,e2,List.append_nil]
theorem vE {α β:Type} {f g:α->List β}:∀ {l:List α},(∀ x∈l,f x=g x)->l.flatMap f=l.flatMap g
 | [],_=>rfl
 | a :: l,h=>by rw[List.flatMap_cons,List.flatMap_cons,h a (by simp),vE fun x hx=>h x (by simp[hx])]
theorem jD {letters k:Nat} (f:List Int->List (List (List Int))):((yP letters k).flatMap fun u=>if u=[] then [] else f u)=((yP letters k).drop 1).flatMap f:=by
 obtain⟨r,e,hr⟩:=kH letters k
 rw[yP,e]
 simp only[List.flatMap_cons,if_pos,List.nil_append,List.drop_one,List.tail_cons]
 exact vE fun u hu=>by rw[if_neg (hr u hu)]
theorem uM {α β:Type} (h:α->β) (l:List α):(l.flatMap fun x=>[h x])=l.map h:=by induction l with
 | nil=>rfl
 | cons a l ih=>simp[ih]
theorem genU_1 (k:Nat) (u:List Int):genU 1 k u=[oneB u]:=by unfold genU;by_cases h:u=[] <;> simp[h]
theorem genU_7 (k:Nat) (u:List Int):genU 7 k u=[oneB u]:=by unfold genU;by_cases h:u=[] <;> simp[h]
theorem genU_2 (k:Nat) (u:List Int):genU 2 k u=(if u.length < k then [oneB u] else []) ++ (if u=[] then [] else [preB u]):=by unfold genU;by_cases h:u=[] <;> simp[h]
theorem genU_3 (k:Nat) (u:List Int):genU 3 k u=(if u.length < k then [oneB u] else []) ++ (if u=[] then [] else [sufB u]):=by unfold genU;by_cases h:u=[] <;> simp[h]
theorem genU_4 (k:Nat) (u:List Int):genU 4 k u=(if u.length < k then [oneB u] else []) ++ (if u=[] then [] else [preB u] ++ [sufB u]):=by unfold genU;by_cases h:u=[] <;> simp[h]
theorem qCS (k:Nat) (u:List Int):genU 5 k u=(if u.length < k then [oneB u] else []) ++ (if u=[] then [] else [preB u] ++ ([sufB u] ++ [facB u])):=by unfold genU;by_cases h:u=[] <;> simp[h]
theorem qCR (k:Nat) (u:List Int):genU 6 k u=(if u=[] then [] else [tC u]):=by unfold genU;by_cases h:u=[] <;> simp[h]
theorem gZ {kind:Int} {letters k:Nat} (h1:1<=kind) (h7:kind<=7) (m:Nat) (hm:(allC (yP letters k) (m+1)).length<=301\/kind≠7):(refL kind letters k m).Perm (famP kind letters k m):=by
 have h2:kind=1\/kind=2\/kind=3\/kind=4\/kind=5\/kind=6\/kind=7:=by omega
 have h0:((yP letters k).flatMap fun u=>if u.length < k then [oneB u] else [])=(upTo letters k).map oneB:=by rw[qBG (fun u:List Int=>u.length < k) oneB,filter_short]
 rcases h2 with rfl|rfl|rfl|rfl|rfl|rfl|rfl
 ·have e:refL 1 letters k m=famP 1 letters k m:=by
   rw[refL,if_neg (by decide),List.append_nil,genL,vE fun u _=>genU_1 k u,uM];rfl
  rw[e]
 ·rw[refL,if_neg (by decide),List.append_nil,genL,vE fun u _=>genU_2 k u]
  refine(uR _ _ _).trans ?_
  rw[h0,jD,uM];exact List.Perm.refl _
 ·rw[refL,if_neg (by decide),List.append_nil,genL,vE fun u _=>genU_3 k u]
  refine(uR _ _ _).trans ?_
  rw[h0,jD,uM];exact List.Perm.refl _
 ·rw[refL,if_neg (by decide),List.append_nil,genL,vE fun u _=>genU_4 k u]
  refine(uR _ _ _).trans ?_
  rw[h0,jD]
  show List.Perm _ ((upTo letters k).map oneB ++ ((yP letters k).drop 1).map sufB ++ ((yP letters k).drop 1).map preB)
  rw[List.append_assoc]
  refine List.Perm.append_left _ ((uR _ _ _).trans ?_)
  rw[uM,uM];exact List.perm_append_comm
 ·rw[refL,if_neg (by decide),List.append_nil,genL,vE fun u _=>qCS k u]
  refine(uR _ _ _).trans ?_
  rw[h0,jD]
  show List.Perm _ ((upTo letters k).map oneB ++ ((yP letters k).drop 1).map sufB ++ ((yP letters k).drop 1).map preB ++ ((yP letters k).drop 1).map facB)
  rw[List.append_assoc,List.append_assoc]
  refine List.Perm.append_left _ ((uR _ _ _).trans ?_)
  rw[uM]
  refine(List.Perm.append_left _ (uR _ _ _)).trans ?_
  rw[uM,uM,<- List.append_assoc,<- List.append_assoc]
  exact List.Perm.append_right _ List.perm_append_comm
 ·have e:refL 6 letters k m=famP 6 letters k m:=by
   rw[refL,if_neg (by decide),List.append_nil,genL,vE fun u _=>qCR k u,jD,uM];rfl
  rw[e]
 ·have e:refL 7 letters k m=famP 7 letters k m:=by
   rw[refL,if_pos rfl,genL,vE fun u _=>genU_7 k u,uM,List.take_of_length_le (by rcases hm with h|h;exact h;exact absurd rfl h)]
   show _=chL (yP letters k) (m+1)
   rw[eE]
  rw[e]
theorem sortP_nodup {l:List (List (List Int))} (h:tB l):l.Nodup:=List.Pairwise.imp (fun {a b} h e=>by rw[e,sK]at h;cases h) h
theorem qAP {kind:Int} {letters k:Nat} (h1:1<=kind) (h7:kind<=7) (m:Nat):(300 < (refL kind letters k m).length ↔ 300 < (famP kind letters k m).length):=by
 by_cases hm:(allC (yP letters k) (m+1)).length<=301\/kind≠7
 ·rw[(gZ h1 h7 m hm).length_eq]
 ·have h0:¬ (allC (yP letters k) (m+1)).length<=301:=fun h=>hm (.inl h)
  have hk:kind=7:=Decidable.not_not.1 fun h=>hm (.inr h)
  subst hk
  have e1:301<=(refL 7 letters k m).length:=by
   rw[refL,if_pos rfl,List.length_append,List.length_take];omega
  have e2:301<=(famP 7 letters k m).length:=by
   show 301<=(chL (yP letters k) (m+1)).length
   rw[eE,List.length_append];omega
  omega
end Go.Proofs.Ytjfdomfendbhfaa
