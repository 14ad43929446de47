/- Part 4 of the proof: Assoc, Ref40a, Light, Span, Span2. -/
import Derived.Test.YtdjhoadoiknaoaaDoorZD3
set_option linter.unusedVariables false
set_option linter.unusedSimpArgs false
namespace Go.Proofs.YtdjhoadoiknaoaaDoor
open Go.RowKit
def iV (t:List (List Int)) (x y z:Nat):Prop:=entN t (entN t x y) z=entN t x (entN t y z)
theorem lB {t:List (List Int)} (h:∀ x,x < t.length→∀ y,y < t.length→∀ z,z < t.length→iV t x y z):bQ t:=fun g hg x y hx hy=>h x hx g hg y hy
theorem not_assoc {t:List (List Int)} {x y z:Nat} (hx:x < t.length) (hy:y < t.length) (hz:z < t.length) (h:¬ iV t x y z):¬ bQ t:=fun ha=>h (ha y hy x z hx hz)
def lG (w:World) (t:List (List Int)) (e:Ending) (w':World):Prop:=∃ x y z:Int,e=.returned (.tuple #[.int .i64 x,.int .i64 y,.int .i64 z,.int .i64 (xM t)])∧∃ m,w'=w.drewN m
def DoneX (t:List (List Int)) (k:Nat):Prop:=∀ x,x < k→∀ y,y < t.length→∀ z,z < t.length→iV t x y z
def DoneY (t:List (List Int)) (x k:Nat):Prop:=∀ y,y < k→∀ z,z < t.length→iV t x y z
def DoneZ (t:List (List Int)) (x y k:Nat):Prop:=∀ z,z < k→iV t x y z
theorem lG.mk {w:World} {t:List (List Int)} {x y z c:Int} {m:Nat} (h:c=xM t):lG w t (.returned (.tuple #[.int .i64 x,.int .i64 y,.int .i64 z,.int .i64 c])) (w.drewN m):=⟨x,y,z,by rw [h],m,rfl⟩
theorem lG.mk0 {w:World} {t:List (List Int)} {x y z c:Int} (h:c=xM t):lG w t (.returned (.tuple #[.int .i64 x,.int .i64 y,.int .i64 z,.int .i64 c])) w:=⟨x,y,z,by rw [h],0,rfl⟩
set_option maxRecDepth 100000 in
set_option maxHeartbeats 800000 in
theorem associative_any (B:Nat) (w:World) (v:Value) (t:List (List Int)) (h:Mat B w v t) :
  Calls Tryd.prog 113 #[v] w (lG w t):=by
 by_cases hE:uZ t=0
 ·have hs:=cN hE
  obtain ⟨b,off,cap,RB,RO,RC,rfl,hc1,hc2,hq⟩:=h.sq hs
  have hmx:cap≤9223372036854775807:=by unfold maxLen at hc2;omega
  have HE:=Kh hE;have HS:=Kh hs;have HQ:=Kh hq;have H0:=Kh h
  clear hE hs hq h
  go_enter Tryd.func113,Tryd.ntmps113
  go_wp2_with fail
  refine (fN B w _ t H0.out).mono ?_
  rintro e w' ⟨rfl,rfl⟩
  rw [HE.out]
  go_wp2
  go_loopg [17] t.length (fun g i wr=>∃ k m:Nat,g+k=t.length∧i=.int .i64 k∧DoneX t k∧wr=w.drewN m)
  case atStart=>exact ⟨0,0,rfl,rfl,fun x hx=>absurd hx (by omega),rfl⟩
  case round =>
   obtain ⟨x,m,hg,rfl,hok,rfl⟩:=hrel
   have OK:=Kh hok;have HG:=Kh hg;clear hok hg
   by_cases hx:x < t.length
   ·have hx':(x:Int) < t.length:=by omega
    have hxc:=HQ.out.hd x hx
    go_wp2
    go_loopg [22] t.length (fun g i wr=>∃ k m:Nat,g+k=t.length∧i=.int .i64 k∧DoneY t x k∧wr=w.drewN m)
    case atStart=>exact ⟨0,m,rfl,rfl,fun x hx=>absurd hx (by omega),rfl⟩
    case round =>
     obtain ⟨y,m,hg,rfl,hok,rfl⟩:=hrel
     have OKY:=Kh hok;have HGY:=Kh hg;clear hok hg
     by_cases hy:y < t.length
     ·have hy':(y:Int) < t.length:=by omega
      have hyc:=HQ.out.hd y hy
      have hxy:=HQ.out.el x y hx hy
      obtain ⟨p,hp⟩:∃ p,p=entN t x y:=⟨_,rfl⟩
      have hpl:p < t.length:=by rw [hp];exact uX HS.out hx hy
      have hpl':(p:Int) < t.length:=by omega
      have hpc:=HQ.out.hd p hpl
      rw [← hp] at hxy
      have HP:=Kh hp;clear hp
      go_wp2
      go_loopg [27] t.length (fun g i wr=>∃ k m:Nat,g+k=t.length∧i=.int .i64 k∧DoneZ t x y k∧wr=w.drewN m)
      case atStart=>exact ⟨0,m,rfl,rfl,fun x hx=>absurd hx (by omega),rfl⟩
      case round =>
       obtain ⟨z,m,hg,rfl,hok,rfl⟩:=hrel
       have OKZ:=Kh hok;have HGZ:=Kh hg;clear hok hg
       by_cases hz:z < t.length
       ·have hz':(z:Int) < t.length:=by omega
        have hyz:=HQ.out.el y z hy hz
        have hpz:=HQ.out.el p z hpl hz
        obtain ⟨q,hq⟩:∃ q,q=entN t y z:=⟨_,rfl⟩
        have hql:q < t.length:=by rw [hq];exact uX HS.out hy hz
        have hql':(q:Int) < t.length:=by omega
        rw [← hq] at hyz
        have hxq:=HQ.out.el x q hx hql
        obtain ⟨r,hr⟩:∃ r,r=entN t p z:=⟨_,rfl⟩
        obtain ⟨s,hs⟩:∃ s,s=entN t x q:=⟨_,rfl⟩
        rw [← hr] at hpz
        rw [← hs] at hxq
        have hass:iV t x y z ↔ r=s:=by rw [iV,← HP.out,← hq,← hr,← hs]
        have HA:=Kh hass
        clear hq hr hs hass
        by_cases hrs:r=s
        ·subst hrs
         have ht:((r:Int) != (r:Int))=false:=by simp
         go_wp2
         go_quiet (fail)
         go_wp2
         go_roundg (t.length - (z+1))
         case measure=>have:=HGZ.out;omega
         case rel =>
          refine ⟨z+1,_,by omega,by go_num,fun z' hz'=>?_,rfl⟩
          rcases Nat.lt_succ_iff_lt_or_eq.1 hz' with hz'|rfl
          ·exact OKZ.out z' hz'
          ·exact HA.out.2 (by simp)
        ·have ht:((r:Int) != (s:Int))=true:=by rw [bne_iff_ne];omega
         have HRS:=Kh hrs;clear hrs
         go_wp2
         go_quiet (fail)
         go_wp2
         refine bodyPost_ret (v:=.tuple #[.int .i64 x,.int .i64 y,.int .i64 z,.int .i64 5]) (by simp [results,Tryd.results113,go_sem]) rfl ?_
         rw [World.drewN_drewN]
         exact lG.mk (jY HE.out (not_assoc hx hy hz (fun h=>HRS.out (HA.out.1 h)))).symm
       ·go_wp2
        go_roundg (t.length - (y+1))
        case measure=>have:=HGY.out;omega
        case rel =>
         refine ⟨y+1,m,by omega,by go_num,fun y' hy'=>?_,rfl⟩
         rcases Nat.lt_succ_iff_lt_or_eq.1 hy' with hy'|rfl
         ·exact OKY.out y' hy'
         ·exact fun z' hz'=>OKZ.out z' (by omega)
     ·go_wp2
      go_roundg (t.length - (x+1))
      case measure=>have:=HG.out;omega
      case rel =>
       refine ⟨x+1,m,by omega,by go_num,fun x' hx'=>?_,rfl⟩
       rcases Nat.lt_succ_iff_lt_or_eq.1 hx' with hx'|rfl
       ·exact OK.out x' hx'
       ·exact fun y' hy'=>OKY.out y' (by omega)
   ·go_wp2
    refine bodyPost_ret (v:=.tuple #[.int .i64 0,.int .i64 0,.int .i64 0,.int .i64 0]) (by simp [results,Tryd.results113,go_sem]) rfl ?_
    exact lG.mk (rR HE.out (lB (fun x' hx'=>OK.out x' (by omega)))).symm
 ·have hb:(uZ t != 0)=true:=by rw [bne_iff_ne];exact hE
  have HE:=Kh hE;clear hE
  go_enter Tryd.func113,Tryd.ntmps113
  go_wp2_with fail
  refine (fN B w v t h).mono ?_
  rintro e w' ⟨rfl,rfl⟩
  go_wp2
  refine bodyPost_ret (v:=.tuple #[.int .i64 0,.int .i64 0,.int .i64 0,.int .i64 (uZ t)]) (by simp [results,Tryd.results113,go_sem]) rfl ?_
  exact lG.mk0 (mI HE.out).symm
theorem validate14_any (B:Nat) (w:World) (v:Value) (t:List (List Int)) (h:Mat B w v t) :
  Calls Tryd.prog 95 #[v] w fun e w'=>e=.returned (.int .i64 (xM t))∧∃ m,w'=w.drewN m:=by
 go_enter Tryd.func95,Tryd.ntmps95
 go_wp2_with fail
 refine (associative_any B w v t h).mono ?_
 rintro e w' ⟨x,y,z,rfl,m,rfl⟩
 go_wp2
 go_ret
 exact ⟨rfl,m,rfl⟩
def idAt (t:List (List Int)) (e x:Nat):Bool:=entN t e x == x && entN t x e == x
def isId (t:List (List Int)) (e:Nat):Bool:=(List.range t.length).all (idAt t e)
def vC (t:List (List Int)):Int:=match (List.range t.length).find? (isId t) with
 | some e=>e
 | none=>-1
theorem find_range {p:Nat→Bool} {n e:Nat} (he:e < n) (hp:p e=true) (hb:∀ x,x < e→p x=false):(List.range n).find? p=some e:=by
 rw [List.find?_eq_some_iff_getElem]
 refine ⟨hp,e,by simpa using he,by simp,fun j hj=>by simp [hb j hj]⟩
theorem kP {t:List (List Int)} {e:Nat} (he:e < t.length) (hp:isId t e=true) (hb:∀ x,x < e→isId t x=false):vC t=e:=by rw [vC,find_range he hp hb]
theorem eG {t:List (List Int)} (hb:∀ x,x < t.length→isId t x=false):vC t = -1:=by
 have:(List.range t.length).find? (isId t)=none:=by
  rw [List.find?_eq_none];intro x hx;rw [hb x (by simpa using hx)];simp
 rw [vC,this]
theorem rO (p:Nat→Bool) (n:Nat):(List.range (n+1)).all p=((List.range n).all p && p n):=by
 rw [List.range_succ,List.all_append];simp
def NoId (t:List (List Int)) (k:Nat):Prop:=∀ x,x < k→isId t x=false
set_option maxRecDepth 100000 in
set_option maxHeartbeats 800000 in
theorem oD (B:Nat) (w:World) (v:Value) (t:List (List Int)) (h:Mat B w v t) (hs:Shape t) :
  Calls Tryd.prog 33 #[v] w fun e w'=>e=.returned (.int .i64 (vC t))∧w=w':=by
 obtain ⟨b,off,cap,RB,RO,RC,rfl,hc1,hc2,hq⟩:=h.sq hs
 have hmx:cap≤9223372036854775807:=by unfold maxLen at hc2;omega
 have HQ:=Kh hq;clear hs hq h
 go_enter Tryd.func33,Tryd.ntmps33
 go_wp2
 go_loopg [8] t.length (fun g i wr=>∃ k:Nat,g+k=t.length∧i=.int .i64 k∧NoId t k∧w=wr)
 case atStart=>exact ⟨0,rfl,rfl,fun x hx=>absurd hx (by omega),rfl⟩
 case round =>
  obtain ⟨x,hg,rfl,hok,rfl⟩:=hrel
  have OK:=Kh hok;have HG:=Kh hg;clear hok hg
  by_cases hx:x < t.length
  ·have hx':(x:Int) < t.length:=by omega
   have hxc:=HQ.out.hd x hx
   go_wp2
   go_loopg [4,13] t.length (fun g s i wr=>∃ (k:Nat) (c:Bool),g+k=t.length∧s=.bool c∧i=.int .i64 k∧Hid (c=(List.range k).all (idAt t x))∧w=wr)
   case atStart=>exact ⟨0,true,rfl,rfl,rfl,Kh rfl,rfl⟩
   case round =>
    obtain ⟨y,c,hg,rfl,rfl,hc,rfl⟩:=hrel
    have HGY:=Kh hg;clear hg
    by_cases hy:y < t.length
    ·have hy':(y:Int) < t.length:=by omega
     have hyc:=HQ.out.hd y hy
     have hxy:=HQ.out.el x y hx hy
     have hyx:=HQ.out.el y x hy hx
     cases c
     ·go_wp2
      go_roundg (t.length - (y+1))
      case measure=>have:=HGY.out;omega
      case rel=>exact ⟨y+1,false,by omega,rfl,by go_num,Kh (by rw [rO,← hc.out];rfl),rfl⟩
     ·obtain ⟨p,hp⟩:∃ p,p=entN t x y:=⟨_,rfl⟩
      obtain ⟨q,hq⟩:∃ q,q=entN t y x:=⟨_,rfl⟩
      rw [← hp] at hxy
      rw [← hq] at hyx
      have HI:Hid (idAt t x y=(p == y && q == y)):=by rw [hp,hq];exact Kh rfl
      clear hp hq
      by_cases h1:p=y
      ·by_cases h2:q=y
       ·have e1:((p:Int) == (y:Int))=true:=by rw [h1];simp
        have e2:((q:Int) == (y:Int))=true:=by rw [h2];simp
        have H1:=Kh h1;have H2:=Kh h2;clear h1 h2
        go_wp2
        go_roundg (t.length - (y+1))
        case measure=>have:=HGY.out;omega
        case rel=>exact ⟨y+1,true,by omega,rfl,by go_num,Kh (by rw [rO,← hc.out,HI.out,H1.out,H2.out];simp),rfl⟩
       ·have e1:((p:Int) == (y:Int))=true:=by rw [h1];simp
        have e2:((q:Int) == (y:Int))=false:=by rw [beq_eq_false_iff_ne];omega
        have H1:=Kh h1;have H2:=Kh h2;clear h1 h2
        go_wp2
        go_roundg (t.length - (y+1))
        case measure=>have:=HGY.out;omega
        case rel=>exact ⟨y+1,false,by omega,rfl,by go_num,Kh (by rw [rO,HI.out];simp [H2.out]),rfl⟩
      ·have e1:((p:Int) == (y:Int))=false:=by rw [beq_eq_false_iff_ne];omega
       have H1:=Kh h1;clear h1
       go_wp2
       go_roundg (t.length - (y+1))
       case measure=>have:=HGY.out;omega
       case rel=>exact ⟨y+1,false,by omega,rfl,by go_num,Kh (by rw [rO,HI.out];simp [H1.out]),rfl⟩
    ·have hI:Hid (c=isId t x):=by
      have:y=t.length:=by have:=HGY.out;omega
      subst this;exact hc
     cases c
     ·go_wp2
      go_roundg (t.length - (x+1))
      case measure=>have:=HG.out;omega
      case rel =>
       refine ⟨x+1,by omega,by go_num,fun x' hx'=>?_,rfl⟩
       rcases Nat.lt_succ_iff_lt_or_eq.1 hx' with hx'|rfl
       ·exact OK.out x' hx'
       ·exact hI.out.symm
     ·go_wp2
      go_ret
      exact ⟨yH (kP hx hI.out.symm OK.out).symm,rfl⟩
  ·go_wp2
   go_ret
   exact ⟨yH (eG (fun x' hx'=>OK.out x' (by omega))).symm,rfl⟩
def inB (n:Nat) (l:List Int):Bool:=l.all fun x=>decide (0≤x∧x < n)
theorem qB {n:Nat} {l:List Int}:inB n l=true ↔ ∀ y,y < l.length→0≤l.getD y 0∧l.getD y 0 < n:=by
 simp only [inB,List.all_eq_true,decide_eq_true_eq]
 refine ⟨fun h y hy=>?_,fun h x hx=>?_⟩
 ·have:=h (l[y]) (List.getElem_mem hy)
  simpa [List.getD,List.getElem?_eq_getElem hy] using this
 ·obtain ⟨y,hy,rfl⟩:=List.getElem_of_mem hx
  have:=h y hy
  simpa [List.getD,List.getElem?_eq_getElem hy] using this
theorem bD {n:Nat} {l:List Int} {y:Nat} (hy:y < l.length) (h:l.getD y 0 < 0∨n≤l.getD y 0):inB n l=false:=by
 rw [← Bool.not_eq_true]
 intro hr
 have:=qB.1 hr y hy
 omega
set_option maxHeartbeats 400000 in
theorem in14_any (B:Nat) (w:World) (a:Option Addr) (n cap:Nat) (v:Value) (l:List Int) (hn:n≤9223372036854775807) (h:Row B w v (ints l)) :
  Calls Tryd.prog 69 #[.slice a n cap,v] w fun e w'=>e=.returned (.bool (inB n l))∧w=w':=by
 by_cases h0:0 < l.length
 ·obtain ⟨b,off,c,rfl,_,hc1,hc2,hra⟩:=h.some_ (by rw [zM];exact h0)
  rw [zM] at *
  have hmx:c≤9223372036854775807:=by unfold maxLen at hc2;omega
  have RA:=Kh hra;clear hra h
  go_enter Tryd.func69,Tryd.ntmps69
  go_wp2
  go_loopg [9] l.length (fun g i wr=>∃ k:Nat,g+k=l.length∧i=.int .i64 k∧qAF n l k∧w=wr)
  case atStart=>exact ⟨0,rfl,rfl,fun x hx=>absurd hx (by omega),rfl⟩
  case round =>
   obtain ⟨y,hg,rfl,hok,rfl⟩:=hrel
   have OKY:=Kh hok;have HG2:=Kh hg;clear hok hg
   by_cases hy:y < l.length
   ·have hcy:=RA.out.int y hy
    obtain ⟨z,hz⟩:∃ z,z=l.getD y 0:=⟨_,rfl⟩
    rw [← hz] at hcy
    have HZ:=Kh hz;clear hz
    by_cases hb1:z < 0
    ·go_wp2
     go_ret
     exact ⟨zZ (bD hy (by rw [← HZ.out];exact .inl hb1)).symm,rfl⟩
    ·by_cases hb2:(n:Int)≤z
     ·go_wp2
      go_ret
      exact ⟨zZ (bD hy (by rw [← HZ.out];exact .inr hb2)).symm,rfl⟩
     ·go_wp2
      go_roundg (l.length - (y+1))
      case measure=>have:=HG2.out;omega
      case rel =>
       refine ⟨y+1,by omega,by go_num,fun x hx=>?_,rfl⟩
       rcases Nat.lt_succ_iff_lt_or_eq.1 hx with hx|rfl
       ·exact OKY.out x hx
       ·rw [← HZ.out];omega
   ·go_wp2
    go_ret
    exact ⟨zZ (qB.2 (fun x hx=>OKY.out x (by omega))).symm,rfl⟩
 ·have hl:l=[]:=List.eq_nil_of_length_eq_zero (by omega)
  subst hl
  obtain ⟨a',c,rfl⟩:=h.nil_ rfl
  clear h h0
  go_enter Tryd.func69,Tryd.ntmps69
  go_wp2
  refine wp_loop_rounds 1 ?_
  rw [rounds_succ]
  go_wp2
  go_ret
  exact ⟨rfl,rfl⟩
def PB (n:Nat) (tb:Nat→Nat→Nat) (a b k j s:Nat):Prop :=
 ∀ z,s.testBit z=true ↔ (∃ x y,x < k∧y < n∧a.testBit x=true∧b.testBit y=true∧tb x y=z)∨(∃ y,y < j∧a.testBit k=true∧b.testBit y=true∧tb k y=z)
theorem PB.skip {n:Nat} {tb:Nat→Nat→Nat} {a b k j s:Nat} (h:PB n tb a b k j s) (hb:¬ (a.testBit k=true∧b.testBit j=true)):PB n tb a b k (j+1) s:=by
 intro z
 rw [h z]
 refine or_congr_right ⟨fun ⟨y,hy,h⟩=>⟨y,by omega,h⟩,fun ⟨y,hy,h1,h2,h3⟩=>?_⟩
 rcases Nat.lt_succ_iff_lt_or_eq.1 hy with hy|rfl
 ·exact ⟨y,hy,h1,h2,h3⟩
 ·exact absurd ⟨h1,h2⟩ hb
theorem PB.add {n:Nat} {tb:Nat→Nat→Nat} {a b k j s:Nat} (h:PB n tb a b k j s) (h1:a.testBit k=true) (h2:b.testBit j=true):PB n tb a b k (j+1) (s ||| 2 ^ tb k j):=by
 intro z
 rw [← Nat.one_shiftLeft,lY,Bool.or_eq_true,decide_eq_true_eq,h z]
 constructor
 ·rintro ((h|⟨y,hy,h⟩)|e)
  ·exact .inl h
  ·exact .inr ⟨y,by omega,h⟩
  ·exact .inr ⟨j,by omega,h1,h2,e⟩
 ·rintro (h|⟨y,hy,h3,h4,h5⟩)
  ·exact .inl (.inl h)
  ·rcases Nat.lt_succ_iff_lt_or_eq.1 hy with hy|rfl
   ·exact .inl (.inr ⟨y,hy,h3,h4,h5⟩)
   ·exact .inr h5
theorem PB.next {n:Nat} {tb:Nat→Nat→Nat} {a b k s:Nat} (h:PB n tb a b k n s):PB n tb a b (k+1) 0 s:=by
 intro z
 rw [h z]
 constructor
 ·rintro (⟨x,y,hx,h⟩|⟨y,hy,h1,h2,h3⟩)
  ·exact .inl ⟨x,y,by omega,h⟩
  ·exact .inl ⟨k,y,by omega,hy,h1,h2,h3⟩
 ·rintro (⟨x,y,hx,h1,h2,h3,h4⟩|⟨y,hy,_⟩)
  ·rcases Nat.lt_succ_iff_lt_or_eq.1 hx with hx|rfl
   ·exact .inl ⟨x,y,hx,h1,h2,h3,h4⟩
   ·exact .inr ⟨y,h1,h2,h3,h4⟩
  ·omega
theorem PB.start {n:Nat} {tb:Nat→Nat→Nat} {a b:Nat}:PB n tb a b 0 0 0:=by
 intro z
 simp
theorem PB.end_ {n:Nat} {tb:Nat→Nat→Nat} {a b s:Nat} (h:PB n tb a b n 0 s):s=zU n tb a b:=by
 refine iP fun z=>?_
 rw [h z]
 constructor
 ·rintro (⟨x,y,h⟩|⟨y,hy,_⟩)
  ·exact ⟨x,y,h⟩
  ·omega
 ·rintro ⟨x,y,h⟩
  exact .inl ⟨x,y,h⟩
set_option maxRecDepth 100000 in
set_option maxHeartbeats 1000000 in
theorem lR (B:Nat) (w:World) (v:Value) (t:List (List Int)) (a b:Nat) (h:Mat B w v t) (hs:Shape t) (hn:t.length≤12) (ha:a < 2 ^ t.length) (hb:b < 2 ^ t.length) :
  Calls Tryd.prog 55 #[v,.int .i64 (a:Int),.int .i64 (b:Int)] w fun e w'=>e=.returned (.int .i64 (zU t.length (entN t) a b:Nat))∧w=w':=by
 obtain ⟨tb_,off,cap,RB,RO,RC,rfl,hc1,hc2,hq⟩:=h.sq hs
 have hmx:cap≤9223372036854775807:=by unfold maxLen at hc2;omega
 obtain ⟨N,hN⟩:∃ N,N=2 ^ t.length:=⟨_,rfl⟩
 have hN4:N≤4096:=by have:=uR hn;omega
 have ha63:a < 9223372036854775808:=by omega
 have hb63:b < 9223372036854775808:=by omega
 have HQ:=Kh hq;have HS:=Kh hs;have HN:=Kh hN
 clear hs hq h hN ha hb
 go_enter Tryd.func55,Tryd.ntmps55
 go_wp2
 go_loopg [7,12] t.length (fun g sv i wr=>∃ k s:Nat,g+k=t.length∧i=.int .i64 k∧sv=.int .i64 s∧s < N∧Hid (PB t.length (entN t) a b k 0 s)∧w=wr)
 case atStart=>exact ⟨0,0,rfl,rfl,rfl,by rw [HN.out];exact Nat.two_pow_pos _,Kh PB.start,rfl⟩
 case round =>
  obtain ⟨k,s,hg,rfl,rfl,hs,hpb,rfl⟩:=hrel
  have HG:=Kh hg;clear hg
  by_cases hk:k < t.length
  ·have hk':(k:Int) < t.length:=by omega
   have ck:=HQ.out.hd k hk
   go_wp2
   go_loopg [7,17] t.length (fun g sv i wr=>∃ j s:Nat,g+j=t.length∧i=.int .i64 j∧sv=.int .i64 s∧s < N∧Hid (PB t.length (entN t) a b k j s)∧w=wr)
   case atStart=>exact ⟨0,s,rfl,rfl,rfl,hs,hpb,rfl⟩
   case round =>
    clear hs hpb
    obtain ⟨j,s,hg,rfl,rfl,hs,hpb,rfl⟩:=hrel
    have HGJ:=Kh hg;clear hg
    by_cases hj:j < t.length
    ·have hj':(j:Int) < t.length:=by omega
     cases hba:a.testBit k
     ·have e1:=fE ha63 hba
      have hpb2:=Kh (hpb.out.skip (by rw [hba];simp))
      have HBA:=Kh hba
      clear hba
      go_wp2
      go_roundg (t.length - (j+1))
      case measure=>have:=HGJ.out;omega
      case rel=>exact ⟨j+1,s,by omega,by go_num,rfl,hs,hpb2,rfl⟩
     ·have e1:=bL ha63 hba
      cases hbb:b.testBit j
      ·have e2:=fE hb63 hbb
       have hpb2:=Kh (hpb.out.skip (by rw [hbb];simp))
       have HBA:=Kh hba;have HBB:=Kh hbb
       clear hba hbb
       go_wp2
       go_roundg (t.length - (j+1))
       case measure=>have:=HGJ.out;omega
       case rel=>exact ⟨j+1,s,by omega,by go_num,rfl,hs,hpb2,rfl⟩
      ·have e2:=bL hb63 hbb
       have hpb2:=Kh (hpb.out.add hba hbb)
       have cj:=HQ.out.el k j hk hj
       obtain ⟨m,hm⟩:∃ m,m=entN t k j:=⟨_,rfl⟩
       have hml:m < t.length:=by rw [hm];exact uX HS.out hk hj
       rw [← hm] at cj hpb2
       have hsx:=qE (m:=m) (by omega)
       have hor:=fR (show s < 2 ^ t.length by rw [← HN.out];exact hs) hml
       rw [Nat.one_shiftLeft,← HN.out] at hor
       obtain ⟨M,hM⟩:∃ M,M=2 ^ m:=⟨_,rfl⟩
       rw [← hM] at hsx hor hpb2
       have hM4:M≤4096:=by rw [hM];have:=uR (show m≤12 by omega);omega
       have e4:bits .or .i64 (s:Int) (M:Int)=((s ||| M:Nat):Int):=rG s M (by omega) (by omega)
       have HBA:=Kh hba;have HBB:=Kh hbb
       clear hba hbb hm hM
       go_wp2
       go_roundg (t.length - (j+1))
       case measure=>have:=HGJ.out;omega
       case rel=>exact ⟨j+1,s ||| M,by omega,by go_num,rfl,hor,hpb2,rfl⟩
    ·have hpb2:Hid (PB t.length (entN t) a b (k+1) 0 s):=by
      have hjn:j=t.length:=by have:=HGJ.out;omega
      have:=hpb.out
      rw [hjn] at this
      exact Kh this.next
     go_wp2
     go_roundg (t.length - (k+1))
     case measure=>have:=HG.out;omega
     case rel=>exact ⟨k+1,s,by omega,by go_num,rfl,hs,hpb2,rfl⟩
  ·have he:Hid (s=zU t.length (entN t) a b):=by
    have hkn:k=t.length:=by have:=HG.out;omega
    have:=hpb.out
    rw [hkn] at this
    exact Kh this.end_
   go_wp2
   go_ret
   exact ⟨yH (by rw [← he.out]),rfl⟩
set_option maxRecDepth 100000 in
theorem fW (B:Nat) (w:World) (v:Value) (t:List (List Int)) (a:Nat) (h:Mat B w v t) (hv:xM t=0) (hn:t.length≤12) (ha:a < 2 ^ t.length) :
  Calls Tryd.prog 57 #[v,.int .i64 (a:Int)] w fun e w'=>e=.returned (.int .i64 (yM t.length (entN t) a:Nat))∧w=w':=by
 have hs:=(uY hv).1
 have ht:=oK hv
 obtain ⟨N,hN⟩:∃ N,N=2 ^ t.length:=⟨_,rfl⟩
 have hN4:N≤4096:=by have:=uR hn;omega
 obtain ⟨O,hO⟩:∃ O,O=yM t.length (entN t) a:=⟨_,rfl⟩
 rw [← hO]
 have H:=Kh h;have HS:=Kh hs;have HN:=Kh hN;have HTB:=Kh ht;have HO:=Kh hO;have HA:=Kh ha
 have haN:a < N:=by omega
 clear h hs hN ht hO ha hv
 go_enter Tryd.func57,Tryd.ntmps57
 go_wp2
 go_loopg [5] (2 ^ t.length * 2 ^ t.length+2 ^ t.length) (fun g xv wr=>∃ x:Nat,xv=.int .i64 x∧x < N∧Hid (Ends t.length (entN t) a g x)∧Hid (rZ t.length (entN t) a g x=O)∧w=wr)
 case atStart=>exact ⟨a,rfl,haN,Kh (iQ HTB.out HA.out),Kh HO.out.symm,rfl⟩
 case round =>
  obtain ⟨x,rfl,hx,hends,hgo,rfl⟩:=hrel
  have hx2:x < 2 ^ t.length:=by rw [← HN.out];exact hx
  have HP1:=Kh (lR B w v t x x H.out HS.out hn hx2 hx2)
  have HP2:=Kh (lR B w v t x a H.out HS.out hn hx2 HA.out)
  obtain ⟨Y,hY⟩:∃ Y,Y=zU t.length (entN t) x a:=⟨_,rfl⟩
  obtain ⟨X,hX⟩:∃ X,X=zU t.length (entN t) x x:=⟨_,rfl⟩
  have hYN:Y < N:=by rw [hY,HN.out];exact wP HTB.out.lt _ _
  rw [← hX] at HP1
  rw [← hY] at HP2
  have HX:=Kh hX;have HY:=Kh hY
  clear hX hY hx2
  by_cases hid:X=x
  ·have ht:((X:Int) != (x:Int))=false:=by rw [hid];simp
   have HI:=Kh hid
   have e4:bits .or .i64 (x:Int) (Y:Int)=((x ||| Y:Nat):Int):=rG x Y (by omega) (by omega)
   have hstop:x ||| Y=O:=by
    have h1:=hgo.out
    rw [mQ (by rw [← HX.out];exact hid)] at h1
    rw [HY.out];exact h1
   rw [hstop] at e4
   clear hid hstop
   go_wp2_with fail
   refine HP1.out.mono ?_
   rintro e w' ⟨rfl,rfl⟩
   go_wp2_with fail
   refine HP2.out.mono ?_
   rintro e w' ⟨rfl,rfl⟩
   go_wp2
   go_ret
   exact ⟨rfl,rfl⟩
  ·have ht:((X:Int) != (x:Int))=true:=by rw [bne_iff_ne];omega
   have HI:=Kh hid
   clear hid
   go_wp2_with fail
   refine HP1.out.mono ?_
   rintro e w' ⟨rfl,rfl⟩
   go_wp2_with fail
   refine HP2.out.mono ?_
   rintro e w' ⟨rfl,rfl⟩
   obtain ⟨j,hj,he⟩:=eL hends.out (by rw [← HX.out];exact HI.out)
   have hgo2:=hgo.out
   rw [hj,mR (by rw [← HX.out];exact HI.out),← HY.out] at hgo2
   rw [← HY.out] at he
   have HJ:=Kh hj;have HE:=Kh he;have HG:=Kh hgo2
   clear hj he hgo2
   go_wp2
   go_roundg j
   case measure=>have:=HJ.out;omega
   case rel=>exact ⟨Y,rfl,hYN,HE,HG,rfl⟩
def setB (n:Nat) (s:Int):Bool:=decide (0≤s∧s < (2 ^ n:Nat))
theorem mT (w:World) (a:Option Addr) (n cap:Nat) (s:Int) (hn:n≤12) :
  Calls Tryd.prog 66 #[.slice a n cap,.int .i64 s] w fun e w'=>e=.returned (.bool (setB n s))∧w=w':=by
 have hsh:=qE (m:=n) (by omega)
 unfold setB
 obtain ⟨N,hN⟩:∃ N,N=2 ^ n:=⟨_,rfl⟩
 rw [← hN] at hsh ⊢
 have HN:=Kh hN
 clear hN
 by_cases h0:0≤s
 ·go_enter Tryd.func66,Tryd.ntmps66
  go_wp2
  go_ret
  exact ⟨zZ (by simp [h0]),rfl⟩
 ·go_enter Tryd.func66,Tryd.ntmps66
  go_wp2
  go_ret
  exact ⟨zZ (by simp;omega),rfl⟩
def fF (t:List (List Int)) (gs:List Nat):Prop:=∀ g∈gs,nO t g
open Classical in
noncomputable def eE (t:List (List Int)) (gs:List Nat):Bool:=decide (fF t gs)
theorem eD {t:List (List Int)} {gs:List Nat} (h:fF t gs):eE t gs=true:=by simp [eE,h]
theorem lightB_false {t:List (List Int)} {gs:List Nat} {k:Nat} (hk:k < gs.length) (h:¬ nO t (gs.getD k 0)):eE t gs=false:=by
 simp only [eE,decide_eq_false_iff_not]
 intro ha
 refine h (ha _ ?_)
 simp only [List.getD,List.getElem?_eq_getElem hk]
 exact List.getElem_mem hk
def TriedOk (t:List (List Int)) (bs:List Bool):Prop:=∀ x,bs.getD x false=true→nO t x
def GensOk (t:List (List Int)) (gs:List Nat) (k:Nat):Prop:=∀ i,i < k→nO t (gs.getD i 0)
def LRows (t:List (List Int)) (g k:Nat):Prop:=∀ x,x < k→∀ y,y < t.length→iV t x g y
def LCols (t:List (List Int)) (x g k:Nat):Prop:=∀ y,y < k→iV t x g y
theorem gens_all {t:List (List Int)} {gs:List Nat} (h:GensOk t gs gs.length):fF t gs:=by
 intro g hg
 obtain ⟨i,hi,rfl⟩:=List.getElem_of_mem hg
 have:=h i hi
 simpa [List.getD,List.getElem?_eq_getElem hi] using this
set_option maxRecDepth 100000 in
set_option maxHeartbeats 1000000 in
theorem associates_any (B:Nat) (w:World) (v gv:Value) (t:List (List Int)) (gs:List Nat) (hB:B≤w.heap.size) (h:Mat B w v t) (hs:Shape t) (hg:Row B w gv (nats gs)) (hgl:∀ g∈gs,g < t.length) :
  Calls Tryd.prog 93 #[v,gv] w fun e w'=>e=.returned (.bool (eE t gs))∧w.grownBy w' none:=by
 obtain ⟨b,off,cap,RB,RO,RC,rfl,hc1,hc2,hq⟩:=h.sq hs
 have hmx:cap≤9223372036854775807:=by unfold maxLen at hc2;omega
 have hgm:=hg.len_le
 rw [zN] at hgm
 unfold maxLen at hgm
 obtain ⟨ga,gc,rfl⟩:=hg.shape
 rw [zN]
 have hpos:=hs.pos
 have hle:=hs.le
 have HQ:=Kh hq;have HS:=Kh hs;have HGR:=Kh hg;have HGL:=Kh hgl
 clear hq hs h hg hgl
 go_enter Tryd.func93,Tryd.ntmps93
 go_wp2_with (at_make;refine kB rfl _ _ _ rfl wJ rfl _ _ _ _ t.length rfl rfl rfl rfl ?b1 ?b2 ?_;(case b1=>omega);(case b2=>(unfold maxLen;omega));intro w1 ha1 hg1 hz1)
 rw [← vS] at ha1
 have HA1:=Kh ha1;clear ha1
 go_loopg [18] gs.length (fun g i wr=>∃ (k:Nat) (bs:List Bool),g+k=gs.length∧i=.int .i64 k∧bs.length=t.length∧Arr wr w.heap.size 4 (bls bs)∧w.grownBy wr none∧TriedOk t bs∧GensOk t gs k)
 case atStart =>
  refine ⟨0,_,rfl,rfl,by simp,HA1.out,hg1,fun x hx=>?_,fun i hi=>absurd hi (by omega)⟩
  exfalso
  simp [List.getD,List.getElem?_replicate] at hx
  split at hx <;> simp at hx
 case round =>
  clear HA1 hg1 hz1
  obtain ⟨k,bs,hgk,rfl,hbl,harr,hgr,htr,hgo⟩:=hrel
  have HGK:=Kh hgk;have HBL:=Kh hbl;have HARR:=Kh harr;have HTR:=Kh htr;have HGO:=Kh hgo
  have hszr:=harr.lt
  clear hgk hbl harr htr hgo
  by_cases hk:k < gs.length
  ·have hk':(k:Int) < gs.length:=by omega
   obtain ⟨gb,go,gcap,e,_,_,_,hra⟩:=HGR.out.some_ (by rw [zN];omega)
   simp only [Value.slice.injEq] at e
   obtain ⟨rfl,-,-⟩:=e
   have HGW:=HGR.out.kept hgr (by simp)
   obtain ⟨gb',go',gcap',e,_,_,_,hra⟩:=HGW.some_ (by rw [zN];omega)
   simp only [Value.slice.injEq,Option.some.injEq,Addr.mk.injEq,and_true] at e
   obtain ⟨⟨rfl,rfl⟩,-,-⟩:=e
   have hgc:=hra.nat k hk
   have hxl:=nQ HGL.out hk
   obtain ⟨x,hx⟩:∃ x,x=gs.getD k 0:=⟨_,rfl⟩
   rw [← hx] at hgc hxl
   have hxl':(x:Int) < t.length:=by omega
   have hbx:=HARR.out.bool x (by rw [HBL.out];exact hxl)
   have hfx:=HARR.out.frozen x
   have HX:=Kh hx
   clear hra hx HGW
   cases hbv:bs.getD x false
   ·rw [hbv] at hbx
    have hset:=HARR.out.bool_set x (by rw [HBL.out];exact hxl) true
    have hgs1:=zH wr ⟨w.heap.size,x,none⟩ (.bool true)
    have HBV:=Kh hbv;clear hbv
    go_wp2
    generalize hW:wr.setCell ⟨w.heap.size,x,none⟩ (.bool true)=w2 at hset hgs1
    have hgw2:w.grownBy w2 none:=zG hgr hgs1 (by simp)
    have HQ2:=Kh (HQ.out.kept hgw2 (by simp))
    have HSET:=Kh hset
    have HW:=Kh hW
    clear hset hgs1 hW hbx hfx hgc
    have hxc:=HQ2.out.hd x hxl
    go_loopg [31] t.length (fun g i wr=>∃ k m:Nat,g+k=t.length∧i=.int .i64 k∧LRows t x k∧wr=w2.drewN m)
    case atStart=>exact ⟨0,0,rfl,rfl,fun x hx=>absurd hx (by omega),rfl⟩
    case round =>
     obtain ⟨a,m,hga,rfl,hok,rfl⟩:=hrel
     have HGA:=Kh hga;have HOK:=Kh hok;clear hga hok
     by_cases ha:a < t.length
     ·have ha':(a:Int) < t.length:=by omega
      have hac:=HQ2.out.hd a ha
      have hax:=HQ2.out.el a x ha hxl
      obtain ⟨p,hp⟩:∃ p,p=entN t a x:=⟨_,rfl⟩
      have hpl:p < t.length:=by rw [hp];exact uX HS.out ha hxl
      have hpl':(p:Int) < t.length:=by omega
      rw [← hp] at hax
      have hpc:=HQ2.out.hd p hpl
      have HP:=Kh hp;clear hp
      go_wp2
      go_loopg [47] t.length (fun g i wr=>∃ k m:Nat,g+k=t.length∧i=.int .i64 k∧LCols t a x k∧wr=w2.drewN m)
      case atStart=>exact ⟨0,m,rfl,rfl,fun x hx=>absurd hx (by omega),rfl⟩
      case round =>
       obtain ⟨y,m,hgy,rfl,hok,rfl⟩:=hrel
       have HGY:=Kh hgy;have HOY:=Kh hok;clear hgy hok
       by_cases hy:y < t.length
       ·have hy':(y:Int) < t.length:=by omega
        have hxy:=HQ2.out.el x y hxl hy
        have hpy:=HQ2.out.el p y hpl hy
        obtain ⟨q,hq⟩:∃ q,q=entN t x y:=⟨_,rfl⟩
        have hql:q < t.length:=by rw [hq];exact uX HS.out hxl hy
        have hql':(q:Int) < t.length:=by omega
        rw [← hq] at hxy
        have haq:=HQ2.out.el a q ha hql
        obtain ⟨r,hr⟩:∃ r,r=entN t p y:=⟨_,rfl⟩
        obtain ⟨s,hs⟩:∃ s,s=entN t a q:=⟨_,rfl⟩
        rw [← hr] at hpy
        rw [← hs] at haq
        have hass:iV t a x y ↔ r=s:=by rw [iV,← HP.out,← hq,← hr,← hs]
        have HA:=Kh hass
        clear hq hr hs hass
        by_cases hrs:r=s
        ·subst hrs
         have ht:((r:Int) != (r:Int))=false:=by simp
         go_wp2
         go_quiet (fail)
         go_wp2
         go_roundg (t.length - (y+1))
         case measure=>have:=HGY.out;omega
         case rel =>
          refine ⟨y+1,_,by omega,by go_num,fun z' hz'=>?_,rfl⟩
          rcases Nat.lt_succ_iff_lt_or_eq.1 hz' with hz'|rfl
          ·exact HOY.out z' hz'
          ·exact HA.out.2 (by simp)
        ·have ht:((r:Int) != (s:Int))=true:=by rw [bne_iff_ne];omega
         have HRS:=Kh hrs;clear hrs
         go_wp2
         go_quiet (fail)
         go_wp2
         go_ret
         refine ⟨zZ (lightB_false hk (fun hl=>HRS.out (HA.out.1 ?_))).symm,zP hgw2 rfl rfl rfl rfl⟩
         rw [← HX.out] at hl
         exact hl a y ha hy
       ·go_wp2
        go_roundg (t.length - (a+1))
        case measure=>have:=HGA.out;omega
        case rel =>
         refine ⟨a+1,m,by omega,by go_num,fun y' hy'=>?_,rfl⟩
         rcases Nat.lt_succ_iff_lt_or_eq.1 hy' with hy'|rfl
         ·exact HOK.out y' hy'
         ·exact fun z' hz'=>HOY.out z' (by omega)
     ·have hlight:Hid (nO t x):=Kh (fun a' y' ha' hy'=>HOK.out a' (by omega) y' hy')
      go_wp2
      go_roundg (gs.length - (k+1))
      case measure=>have:=HGK.out;omega
      case rel =>
       refine ⟨k+1,bs.set x true,by omega,by go_num,by rw [List.length_set];exact HBL.out,HSET.out.of_heap rfl,zP hgw2 rfl rfl rfl rfl,fun y hy=>?_,fun i hi=>?_⟩
       ·by_cases e:x=y
        ·subst e;exact hlight.out
        ·rw [getD_set_ne _ _ _ _ _ e] at hy
         exact HTR.out y hy
       ·rcases Nat.lt_succ_iff_lt_or_eq.1 hi with hi|rfl
        ·exact HGO.out i hi
        ·rw [← HX.out];exact hlight.out
   ·rw [hbv] at hbx
    have HBV:=Kh hbv;clear hbv
    go_wp2
    go_roundg (gs.length - (k+1))
    case measure=>have:=HGK.out;omega
    case rel =>
     refine ⟨k+1,bs,by omega,by go_num,HBL.out,HARR.out,hgr,HTR.out,fun i hi=>?_⟩
     rcases Nat.lt_succ_iff_lt_or_eq.1 hi with hi|rfl
     ·exact HGO.out i hi
     ·rw [← HX.out];exact HTR.out x HBV.out
  ·go_wp2
   go_ret
   refine ⟨zZ (eD (gens_all ?_)).symm,hgr⟩
   have:k=gs.length:=by have:=HGK.out;omega
   rw [← this];exact HGO.out
structure Sp (w0 w:World) (bi bm g n:Nat) (mv:Value) (bs:List Bool) (made:List Nat):Prop where
 box1:w.heap[bi]?=some (.cells #[.slice (some ⟨g,0,none⟩) n n] 25 (0,0))
 box2:w.heap[bm]?=some (.cells #[mv] 22 (0,0))
 own:w.ownsRow w0.heap.size 3 1 mv made.length (nats made)
 shape:∃ sa sc,mv=.slice sa made.length sc
 arr:Arr w g 4 (bls bs)
 len:bs.length=n
 cnt:made.length=bs.count true
 mem:∀ x,x < n→(bs.getD x false=true ↔ x∈made)
 lt:∀ x∈made,x < n
 lo:w0.heap.size≤bi∧w0.heap.size≤bm∧w0.heap.size≤g
 fr:w0.grownBy w none
theorem Sp.made_le {w0 w:World} {bi bm g n:Nat} {mv:Value} {bs:List Bool} {made:List Nat} (h:Sp w0 w bi bm g n mv bs made):made.length≤n:=by
 rw [h.cnt,← h.len];exact List.count_le_length
structure Keep (w w':World) (bm g:Nat) (mv mv':Value):Prop where
 size:w.heap.size≤w'.heap.size
 k1:∀ k,k < w.heap.size→k≠g→k≠bm→mv.ownBlock≠some k→w'.heap[k]?=w.heap[k]?
 k2:mv'.ownBlock=mv.ownBlock∨((∀ k,k < w.heap.size→k≠g→k≠bm→w'.heap[k]?=w.heap[k]?)∧∀ k,mv'.ownBlock=some k→w.heap.size≤k)
def oF (made:List Nat) (x:Nat):List Nat:=if x∈made then made else made ++ [x]
theorem oU {made:List Nat} {x y:Nat}:y∈oF made x ↔ y∈made∨y=x:=by
 unfold oF
 split
 ·constructor
  ·exact .inl
  ·rintro (h|rfl)
   ·exact h
   ·assumption
 ·simp
theorem lD (made:List Nat) (x:Nat):∃ r,oF made x=made ++ r:=by
 unfold oF
 split
 ·exact ⟨[],by simp⟩
 ·exact ⟨[x],rfl⟩
def Added (w0 w:World) (bi bm g n:Nat) (mv:Value) (made:List Nat) (x:Nat) (e:Ending) (w':World):Prop :=
 e=.returned (.tuple #[])∧∃ bs' mv',Sp w0 w' bi bm g n mv' bs' (oF made x)∧Keep w w' bm g mv mv'
theorem count_set_true {bs:List Bool} {x:Nat} (hx:x < bs.length) (h:bs.getD x false=false):(bs.set x true).count true=bs.count true+1:=by
 rw [List.count_set hx]
 have:bs[x]=false:=by simpa [List.getD,List.getElem?_eq_getElem hx] using h
 simp [this]
theorem Sp.set {w0 w w3:World} {bi bm g n x:Nat} {mv:Value} {bs:List Bool} {made:List Nat} {sa:Option Addr} {sc:Nat} (h:Sp w0 w bi bm g n mv bs made) (hx:x < n) (hb:bs.getD x false=false)
  (h1:w3.heap[bi]?=some (.cells #[.slice (some ⟨g,0,none⟩) n n] 25 (0,0))) (h2:w3.heap[bm]?=some (.cells #[.slice sa (made.length+1) sc] 22 (0,0))) (h3:w3.ownsRow w0.heap.size 3 1 (.slice sa (made.length+1) sc) (made.length+1) (nats made ++ [.int .i64 (x:Int)]))
  (h4:Arr w3 g 4 (bls (bs.set x true))) (h5:w0.grownBy w3 none) (h6:Keep w w3 bm g mv (.slice sa (made.length+1) sc)):Added w0 w bi bm g n mv made x (.returned (.tuple #[])) w3:=by
 have hxm:¬ x∈made:=fun hm=>by rw [(h.mem x hx).2 hm] at hb;cases hb
 refine ⟨rfl,bs.set x true,_,⟨h1,h2,?_,?_,h4,by rw [List.length_set];exact h.len,?_,fun y hy=>?_,fun y hy=>?_,h.lo,h5⟩,h6⟩
 ·rw [oF,if_neg hxm,List.length_append,wE];exact h3
 ·rw [oF,if_neg hxm,List.length_append];exact ⟨_,_,rfl⟩
 ·rw [oF,if_neg hxm,List.length_append,count_set_true (by rw [h.len];exact hx) hb,h.cnt];rfl
 ·rw [oU]
  by_cases e:x=y
  ·subst e
   rw [xK _ _ _ _ (by rw [h.len];exact hx)];simp
  ·rw [getD_set_ne _ _ _ _ _ e,h.mem y hy]
   exact ⟨.inl,fun hh=>hh.elim id (fun e'=>absurd e'.symm e)⟩
 ·rcases oU.1 hy with hy|rfl
  ·exact h.lt y hy
  ·exact hx
set_option maxHeartbeats 400000 in
theorem qAR (w0 w:World) (bi bm g n x:Nat) (mv:Value) (bs:List Bool) (made:List Nat) (hx:x < n) (hn:n≤400) (h:Sp w0 w bi bm g n mv bs made) :
  Calls Tryd.prog 112 #[.int .i64 (x:Int),.pointer (some ⟨bi,0,none⟩),.pointer (some ⟨bm,0,none⟩)] w (Added w0 w bi bm g n mv made x):=by
 have H:=Kh h
 have hml:=h.made_le
 obtain ⟨sa,sc,rfl⟩:=h.shape
 have ci:=zI h.box1 0 (by simp)
 have cx:=h.arr.bool x (by rw [h.len];exact hx)
 have fx:=h.arr.frozen x
 simp only [List.getElem_toArray,List.getElem_cons_zero] at ci
 have hx':(x:Int) < n:=by omega
 clear h
 cases hb:bs.getD x false
 ·rw [hb] at cx
  have HB:=Kh hb;clear hb
  have hset:=H.out.arr.bool_set x (by rw [H.out.len];exact hx) true
  have hgs1:=zH w ⟨g,x,none⟩ (.bool true)
  go_enter Tryd.func112,Tryd.ntmps112
  go_upto_region 2 with fail
  generalize hW:w.setCell ⟨g,x,none⟩ (.bool true)=w1 at hset hgs1
  have HW:=Kh hW
  have hlo:=H.out.lo
  have hg1:=zG H.out.fr hgs1 (by simp;omega)
  have hb2:=H.out.box2
  have hown:=H.out.own
  have hb2':=zE hb2 hgs1 (fun e=>by
   have:=Oj e
   exact (H.out.arr.type_ne hb2 (by decide)) this)
  have hb1':=zE H.out.box1 hgs1 (fun e=>(H.out.arr.type_ne H.out.box1 (by decide)) (Oj e))
  have hown':=hown.kept hgs1 (.inr (fun e=>by
   obtain ⟨cur,rest,hh,_⟩:=H.out.arr
   exact zS hown hh (by decide) e))
  have cm:=zI hb2' 0 (by simp)
  simp only [List.getElem_toArray,List.getElem_cons_zero] at cm
  have HB1:=Kh hb1';have HB2:=Kh hb2';have HSET:=Kh hset;have HGS:=Kh hgs1
  clear hW ci cx fx hset hgs1 hb2 hown hb1' hb2'
  go_wp2_with (at_builtin;refine dC rfl _ _ _ rfl yC w0.heap.size _ made.length (nats made) rfl hown' _ rfl rfl ?c1 ?c2 ?c3 ?_)
  case c1=>unfold maxLen;omega
  case c2=>omega
  case c3=>exact hg1.size
  intro sa' sc' w3 hown3 hg3 hlt3 hmv
  have hne2:=zS hown' HB2.out (by decide)
  have hb23:=zE HB2.out hg3 hne2
  have hf3:=zD hb23 0
  have hc3:=zI hb23 0 (by simp)
  simp only [List.getElem_toArray,List.getElem_cons_zero] at hc3
  have hb13:=zE HB1.out hg3 (zS hown' HB1.out (by decide))
  have hset3:=HSET.out.kept hg3 (by
   obtain ⟨cur,rest,hh,_⟩:=HSET.out
   exact zS hown' hh (by decide))
  have hg03:=zG hg1 hg3 (fun k e=>(hown'.lt k e).1)
  have H13:=Kh hb13;have H23:=Kh hb23;have HS3:=Kh hset3;have HO3:=Kh hown3;have HG3:=Kh hg3;have HMV:=Kh hmv
  clear hb13 hb23 hset3 hown3 hg3 hown' cm hmv
  go_wp2
  go_end0
  have hgs:=zH w3 ⟨bm,0,none⟩ (.slice sa' (made.length+1) sc')
  have hz1:=HGS.out.size
  refine H.out.set hx HB.out (sa:=sa') (sc:=sc') ?_ (heap_setCell_same w3 bm 0 _ _ _ H23.out) ?_ ?_ (zG hg03 hgs (by simp;omega)) ⟨Nat.le_trans hz1 (Nat.le_trans HG3.out.size hgs.size),fun k hk h1 h2 h3=>?_,?_⟩
  ·refine zE H13.out hgs (fun e=>?_)
   have e':=Oj e
   have h1:=H13.out
   rw [← e',H23.out] at h1
   simp at h1
  ·exact HO3.out.kept hgs (.inr (zS HO3.out H23.out (by decide)))
  ·exact HS3.out.kept hgs (fun e=>(HS3.out.type_ne H23.out (by decide)) (Oj e).symm)
  ·exact (hgs.block k (by have:=HG3.out.size;omega) (fun e=>h2 (Oj e))).trans ((HG3.out.block k (by omega) (fun e=>h3 e.symm)).trans (HGS.out.block k hk (fun e=>h1 (Oj e))))
  ·rcases HMV.out with e|⟨e1,e2⟩
   ·exact .inl e
   ·exact .inr ⟨fun k hk h1 h2=>(hgs.block k (by have:=HG3.out.size;omega) (fun e=>h2 (Oj e))).trans ((e1.block k (by omega) (by simp)).trans (HGS.out.block k hk (fun e=>h1 (Oj e)))),fun k hk=>Nat.le_trans hz1 (e2 k hk)⟩
 ·rw [hb] at cx
  have HB:=Kh hb;clear hb
  go_enter Tryd.func112,Tryd.ntmps112
  go_wp2
  go_end0
  have hat:oF made x=made:=by rw [oF,if_pos ((H.out.mem x hx).1 HB.out)]
  refine ⟨rfl,bs,_,by rw [hat];exact H.out,Nat.le_refl _,fun _ _ _ _ _=>rfl,.inl rfl⟩
theorem jH {w w':World} {base e size:Nat} {v:Value} {n:Nat} {xs:List Value} (h:w.ownsRow base e size v n xs) (hb:∀ k,v.ownBlock=some k→w'.heap[k]?=w.heap[k]?):w'.ownsRow base e size v n xs:=by
 refine ⟨h.1,?_⟩
 rcases h.2 with h2|⟨g,cap,cur,rfl,h2,h3,h4⟩
 ·exact .inl h2
 ·exact .inr ⟨g,cap,cur,rfl,h2,(hb g rfl).trans h3,h4⟩
theorem Arr.of_block {w w':World} {g:Nat} {e:TypeId} {xs:List Value} (h:Arr w g e xs) (hb:w'.heap[g]?=w.heap[g]?):Arr w' g e xs:=by
 obtain ⟨cur,rest,h,hc⟩:=h
 exact ⟨cur,rest,hb.trans h,hc⟩
def Apart (v u:Value):Prop:=∀ k,v.ownBlock=some k→u.ownBlock≠some k
theorem Keep.gens {w0 w w':World} {bi bm g n base m:Nat} {mv mv' gv:Value} {bs:List Bool} {made:List Nat} {xs:List Value} (hk:Keep w w' bm g mv mv') (h:Sp w0 w bi bm g n mv bs made) (hg:w.ownsRow base 3 1 gv m xs) (ha:Apart gv mv) :
  w'.ownsRow base 3 1 gv m xs∧Apart gv mv':=by
 have hne1:gv.ownBlock≠some g:=by
  obtain ⟨cur,rest,hh,_⟩:=h.arr
  exact zS hg hh (by decide)
 have hne2:gv.ownBlock≠some bm:=zS hg h.box2 (by decide)
 refine ⟨jH hg (fun k e=>hk.k1 k (hg.lt k e).2 (fun e'=>hne1 (by rw [e,e'])) (fun e'=>hne2 (by rw [e,e'])) (ha k e)),fun k e=>?_⟩
 rcases hk.k2 with h1|⟨_,h1⟩
 ·rw [h1];exact ha k e
 ·intro e'
  have:=h1 k e'
  have:=(hg.lt k e).2
  omega
theorem Keep.pre {w0 w w':World} {bi bm g n kb:Nat} {mv mv':Value} {bs bs':List Bool} {made made' pre:List Nat} (hk:Keep w w' bm g mv mv') (h:Sp w0 w bi bm g n mv bs made) (h':Sp w0 w' bi bm g n mv' bs' made') (hp:∃ r,made'=pre ++ r) (ha:Arr w kb 3 (nats pre)):Arr w' kb 3 (nats pre):=by
 have hne1:kb≠g:=by
  rintro rfl
  obtain ⟨cur,rest,hh,_⟩:=h.arr
  exact (ha.type_ne hh (by decide)) rfl
 have hne2:kb≠bm:=ha.type_ne h.box2 (by decide)
 rcases hk.k2 with e|⟨e,_⟩
 ·by_cases hkb:mv.ownBlock=some kb
  ·have hkb':=e.trans hkb
   obtain ⟨r,rfl⟩:=hp
   have ho:=h'.own
   rcases ho.2 with ⟨rfl,_⟩|⟨g',cap',cur',rfl,_⟩
   ·simp [Value.ownBlock] at hkb'
   ·have eg:g'=kb:=by simpa [Value.ownBlock] using hkb'
    subst eg
    have:=Arr.of_owns ho
    rw [rD] at this
    exact this.front
  ·exact ha.of_block (hk.k1 kb ha.lt hne1 hne2 hkb)
 ·exact ha.of_block (e kb ha.lt hne1 hne2)
structure GInv (t:List (List Int)) (gs made:List Nat) (k:Nat):Prop where
 gen:∀ x∈made,Gen t gs x
 all:∀ x,x < k→x∈made
 lt:∀ g∈gs,g < t.length
 le:gs.length≤k
theorem GInv.add {t : List (List Int)} {gs made : List Nat} {k x y : Nat} (h : GInv t gs made k) (hx : x ∈ made) (hy : y ∈ made) : GInv t gs (oF made (entN t x y)) k :=
 ⟨fun z hz => by
  rcases oU.1 hz with hz | rfl
  ·exact h.gen z hz
  ·exact .mul x y (h.gen x hx) (h.gen y hy), fun z hz => oU.2 (.inl (h.all z hz)), h.lt, h.le⟩
theorem GInv.next {t : List (List Int)} {gs made : List Nat} {k : Nat} (h : GInv t gs made k) (hk : k ∈ made) : GInv t gs made (k + 1) :=
 ⟨h.gen, fun x hx => by
  rcases Nat.lt_succ_iff_lt_or_eq.1 hx with hx | rfl
  ·exact h.all x hx
  ·exact hk, h.lt, by have := h.le; omega⟩
theorem GInv.new {t : List (List Int)} {gs made : List Nat} {k : Nat} (h : GInv t gs made k) (hk : k < t.length) : GInv t (gs ++ [k]) (oF made k) (k + 1) :=
 ⟨fun z hz => by
  rcases oU.1 hz with hz | rfl
  ·exact (h.gen z hz).mono (fun g hg => List.mem_append_left _ hg)
  ·exact .base _ (by simp), fun x hx => by
  rw [oU]
  rcases Nat.lt_succ_iff_lt_or_eq.1 hx with hx | rfl
  ·exact .inl (h.all x hx)
  ·exact .inr rfl, fun g hg => by
  rcases List.mem_append.1 hg with hg | hg
  ·exact h.lt g hg
  ·simp at hg; omega, by have := h.le; simp; omega⟩
def SpanPost (w:World) (t:List (List Int)) (e:Ending) (w':World):Prop :=
 ∃ (sa:Option Addr) (sc:Nat) (gs:List Nat),e=.returned (.slice sa gs.length sc)∧Row w'.heap.size w' (.slice sa gs.length sc) (nats gs)∧(∀ g∈gs,g < t.length)∧(∀ x,x < t.length→Gen t gs x)∧w.grownBy w' none
structure SG (w w':World) (bi bm g:Nat) (t:List (List Int)) (gv mv:Value) (bs:List Bool) (gs made:List Nat) (k:Nat):Prop where
 sp:Sp w w' bi bm g t.length mv bs made
 own:w'.ownsRow w.heap.size 3 1 gv gs.length (nats gs)
 ap:Apart gv mv
 inv:GInv t gs made k
theorem SG.add {w w1 w2:World} {bi bm g:Nat} {t:List (List Int)} {gv mv mv':Value} {bs bs':List Bool} {gs made:List Nat} {k x y:Nat} (h:SG w w1 bi bm g t gv mv bs gs made k) (hx:x∈made) (hy:y∈made)
  (h1:Sp w w2 bi bm g t.length mv' bs' (oF made (entN t x y))) (hk:Keep w1 w2 bm g mv mv'):SG w w2 bi bm g t gv mv' bs' gs (oF made (entN t x y)) k :=
 ⟨h1,(hk.gens h.sp h.own h.ap).1,(hk.gens h.sp h.own h.ap).2,h.inv.add hx hy⟩
theorem qBS {l:List Nat} {i:Nat} (hi:i < l.length):l.getD i 0∈l:=by
 simp only [List.getD,List.getElem?_eq_getElem hi];exact List.getElem_mem hi
set_option maxRecDepth 100000 in
set_option maxHeartbeats 2000000 in
theorem spanning_any (B:Nat) (w:World) (v:Value) (t:List (List Int)) (hB:B≤w.heap.size) (h:Mat B w v t) (hs:Shape t) :
  Calls Tryd.prog 94 #[v] w (SpanPost w t):=by
 obtain ⟨b,off,cap,RB,RO,RC,rfl,hc1,hc2,hq⟩:=h.sq hs
 have hmx:cap≤9223372036854775807:=by unfold maxLen at hc2;omega
 have hpos:=hs.pos
 have hle:=hs.le
 have HQ:=Kh hq;have HS:=Kh hs
 clear hq hs h
 go_enter Tryd.func94,Tryd.ntmps94
 go_wp2_with (at_make;refine kB rfl _ _ _ rfl wJ rfl _ _ _ _ t.length rfl rfl rfl rfl ?b1 ?b2 ?_;(case b1=>omega);(case b2=>(unfold maxLen;omega));intro w1 ha1 hg1 hz1)
 rw [← vS] at ha1
 rw [zO] at ha1 hz1
 have hbm:=zE (heap_alloc_new w (.cells #[.slice none 0 0] 22)) hg1 (by simp)
 have hgw:=zF (Ga w (.cells #[.slice none 0 0] 22) none) hg1
 have hSP:Sp w (w1.alloc (.cells #[.slice (some ⟨w.heap.size+1,0,none⟩) t.length t.length] 25)) w1.heap.size w.heap.size (w.heap.size+1) t.length (.slice none 0 0) (List.replicate t.length false) []:=by
  have hA:=Ga w1 (.cells #[.slice (some ⟨w.heap.size+1,0,none⟩) t.length t.length] 25) none
  refine ⟨heap_alloc_new w1 _,zE hbm hA (by simp),World.ownsRow_nil _ _ _ _,⟨none,0,rfl⟩,ha1.kept hA (by simp),by simp,by simp [List.count_replicate],fun x hx=>?_,by simp,⟨by omega,Nat.le_refl _,by omega⟩,zF hgw hA⟩
  simp [List.getD,List.getElem?_replicate,hx]
 have HSP:=Kh hSP
 clear hSP hbm hgw ha1 hg1
 go_loopg [3,7,18] t.length (fun g gv mul i wr=>∃ (k p:Nat) (sa:Option Addr) (sc:Nat) (gs made:List Nat) (mv:Value) (bs:List Bool),g+k=t.length∧gv=.slice sa gs.length sc∧mul=.int .i64 p∧i=.int .i64 k∧p≤made.length ∧
   SG w wr w1.heap.size w.heap.size (w.heap.size+1) t (.slice sa gs.length sc) mv bs gs made k)
 case atStart=>exact ⟨0,0,none,0,[],[],.slice none 0 0,_,rfl,rfl,rfl,rfl,Nat.le_refl _,HSP.out,World.ownsRow_nil _ _ _ _,fun k hk=>by simp [Value.ownBlock] at hk,⟨by simp,fun x hx=>absurd hx (by omega),by simp,by simp⟩⟩
 case round =>
  clear HSP hz1
  obtain ⟨k,p,sa,sc,gs,made,mv,bs,hgk,rfl,rfl,rfl,hp,hst⟩:=hrel
  have HG:=Kh hgk;have ST:=Kh hst;clear hgk hst
  have hml:=ST.out.sp.made_le
  have ci:=zI ST.out.sp.box1 0 (by simp)
  simp only [List.getElem_toArray,List.getElem_cons_zero] at ci
  by_cases hk:k < t.length
  ·have hk':(k:Int) < t.length:=by omega
   have ck:=ST.out.sp.arr.bool k (by rw [ST.out.sp.len];exact hk)
   have hgl:=ST.out.inv.le
   cases hbk:bs.getD k false
   ·rw [hbk] at ck
    have HBK:=Kh hbk;clear hbk
    have howng:=ST.out.own
    obtain ⟨wo,rfl⟩:∃ wo:World,wo=wr:=⟨_,rfl⟩
    go_wp2_with (at_builtin;refine dC rfl _ _ _ rfl yC w.heap.size _ gs.length (nats gs) rfl howng _ rfl rfl ?c1 ?c2 ?c3 ?_)
    case c1=>unfold maxLen;omega
    case c2=>omega
    case c3=>exact ST.out.sp.fr.size
    intro sa1 sc1 w2 hown2 hg2 hlt2 hmv2
    have hsp2:Hid (Sp w w2 w1.heap.size w.heap.size (w.heap.size+1) t.length mv bs made∧Apart (.slice sa1 (gs.length+1) sc1) mv):=by
     have S:=ST.out.sp
     have hap:=ST.out.ap
     have n1:=zS howng S.box1 (by decide)
     have n2:=zS howng S.box2 (by decide)
     have n3:(Value.slice sa gs.length sc).ownBlock≠some (w.heap.size+1):=by
      obtain ⟨cur,rest,hh,_⟩:=S.arr
      exact zS howng hh (by decide)
     refine ⟨⟨zE S.box1 hg2 n1,zE S.box2 hg2 n2,jH S.own (fun q hq=>hg2.block q (S.own.lt q hq).2 (fun e=>hap q e.symm hq)),S.shape,S.arr.kept hg2 n3,S.len,S.cnt,S.mem,S.lt,S.lo,zG S.fr hg2 (fun x e=>(howng.lt x e).1)⟩,fun q hq=>?_⟩
     rcases hmv2 with e|⟨_,e⟩
     ·rw [e] at hq;exact hap q hq
     ·intro hq'
      have:=e q hq
      have:=(S.own.lt q hq').2
      omega
    have HO2:=Kh hown2
    clear howng hown2 hg2 hmv2 ci ck
    go_wp2_with fail
    refine (qAR w w2 w1.heap.size w.heap.size (w.heap.size+1) t.length k mv bs made hk hle hsp2.out.1).mono ?_
    rintro e w3 ⟨rfl,bs3,mv3,hsp3,hkeep⟩
    have hst3:SG w w3 w1.heap.size w.heap.size (w.heap.size+1) t (.slice sa1 (gs.length+1) sc1) mv3 bs3 (gs ++ [k]) (oF made k) (k+1):=by
     have hg3:=hkeep.gens hsp2.out.1 (show w2.ownsRow w.heap.size 3 1 (.slice sa1 (gs.length+1) sc1) (gs.length+1) (nats (gs ++ [k])) by rw [wE];exact HO2.out) hsp2.out.2
     exact ⟨hsp3,by rw [List.length_append];exact hg3.1,hg3.2,ST.out.inv.new hk⟩
    have HST3:=Kh hst3
    have hp3:p≤(oF made k).length:=by
     obtain ⟨r,hr⟩:=lD made k
     rw [hr,List.length_append];omega
    have hgl3:(gs ++ [k]).length=gs.length+1:=by simp
    have HGL:=Kh hgl3
    clear hsp3 hkeep hst3 hsp2 HO2 hgl3
    go_wp2
    go_loopg [7] (t.length - p) (fun g mul wr=>∃ (p:Nat) (made:List Nat) (mv:Value) (bs:List Bool),g+p=t.length∧mul=.int .i64 p∧p≤made.length ∧
      SG w wr w1.heap.size w.heap.size (w.heap.size+1) t (.slice sa1 (gs.length+1) sc1) mv bs (gs ++ [k]) made (k+1))
    case atStart=>exact ⟨p,_,_,_,by have:=HST3.out.sp.made_le;omega,rfl,hp3,HST3.out⟩
    case round =>
     clear HST3 hp3
     obtain ⟨p,made,mv,bs,hgp,rfl,hp,hst⟩:=hrel
     have HGP:=Kh hgp;have ST:=Kh hst;clear hgp hst
     have hml:=ST.out.sp.made_le
     have cm:=zI ST.out.sp.box2 0 (by simp)
     simp only [List.getElem_toArray,List.getElem_cons_zero] at cm
     obtain ⟨ma,mc,hmv⟩:=ST.out.sp.shape
     rw [hmv] at cm
     by_cases hpm:p < made.length
     ·obtain ⟨kb,hma,hmc1,hmc2,harr⟩:=yK (hmv ▸ ST.out.sp.own) (by omega)
      subst hma
      have hpm':(p:Int) < made.length:=by omega
      have cp:=harr.nat p hpm
      obtain ⟨x,hx⟩:∃ x,x=made.getD p 0:=⟨_,rfl⟩
      have hxm:x∈made:=by rw [hx];exact qBS hpm
      have hxl:=ST.out.sp.lt x hxm
      rw [← hx] at cp
      unfold maxLen at hmc2
      have hpre:Arr wr kb 3 (nats (made.take (p+1))):=by
       have:=harr
       rw [← List.take_append_drop (p+1) made,rD] at this
       exact this.front
      have HPRE:=Kh hpre;have HX:=Kh hx;have HXM:=Kh hxm
      have hpl:(made.take (p+1)).length=p+1:=by rw [List.length_take];omega
      have HPL:=Kh hpl
      have hmv':=Kh hmv
      clear hmv hpre hx hxm harr hpl
      obtain ⟨wo,rfl⟩:∃ wo:World,wo=wr:=⟨_,rfl⟩
      go_wp2
      go_loopg [47] (p+1) (fun g jv wr=>∃ (j:Nat) (made':List Nat) (mv':Value) (bs':List Bool),g+j=p+1∧jv=.int .i64 j∧(∃ r,made'=made ++ r)∧Arr wr kb 3 (nats (made.take (p+1))) ∧
        SG w wr w1.heap.size w.heap.size (w.heap.size+1) t (.slice sa1 (gs.length+1) sc1) mv' bs' (gs ++ [k]) made' (k+1))
      case atStart=>exact ⟨0,made,mv,bs,rfl,rfl,⟨[],by simp⟩,HPRE.out,ST.out⟩
      case round =>
       clear cp cm
       obtain ⟨j,made',mv',bs',hgj,rfl,hr,hpre,hst⟩:=hrel
       have HGJ:=Kh hgj;have ST':=Kh hst;have HR:=Kh hr;have HPRE':=Kh hpre
       clear hgj hst hr hpre
       by_cases hj:j < p+1
       ·have cj:=HPRE'.out.nat j (by rw [HPL.out];exact hj)
        obtain ⟨y,hy⟩:∃ y,y=(made.take (p+1)).getD j 0:=⟨_,rfl⟩
        have hym:y∈made:=by rw [hy];exact List.mem_of_mem_take (qBS (by rw [HPL.out];exact hj))
        have hyl:=ST.out.sp.lt y hym
        rw [← hy] at cj
        have hj':(j:Int) < (p:Int)+1:=by omega
        have hxl':(x:Int) < t.length:=by omega
        have hyl':(y:Int) < t.length:=by omega
        have HQ1:=HQ.out.kept ST'.out.sp.fr (by simp)
        have cx:=HQ1.hd x hxl
        have cxy:=HQ1.el x y hxl hyl
        have hxy:=uX HS.out hxl hyl
        have hyx:=uX HS.out hyl hxl
        have HYM:=Kh hym
        clear HQ1 hy hym
        go_wp2_with fail
        refine (qAR w _ w1.heap.size w.heap.size (w.heap.size+1) t.length (entN t x y) mv' bs' made' hxy hle ST'.out.sp).mono ?_
        rintro e w4 ⟨rfl,bs4,mv4,hsp4,hkeep4⟩
        have hin:∀ z∈made,z∈made':=by
         obtain ⟨r,hr⟩:=HR.out
         intro z hz;rw [hr];exact List.mem_append_left _ hz
        have hst4:=Kh (ST'.out.add (hin x HXM.out) (hin y HYM.out) hsp4 hkeep4)
        have hr4:Hid (∃ r,oF made' (entN t x y)=made ++ r):=by
         obtain ⟨r,hr⟩:=HR.out
         obtain ⟨r2,hr2⟩:=lD made' (entN t x y)
         exact ⟨r ++ r2,by rw [hr2,hr,List.append_assoc]⟩
        have hpr4:Hid (Arr w4 kb 3 (nats (made.take (p+1)))):=by
         obtain ⟨r,hr⟩:=hr4.out
         exact hkeep4.pre ST'.out.sp hsp4 ⟨made.drop (p+1) ++ r,by rw [hr,← List.append_assoc,List.take_append_drop]⟩ HPRE'.out
        have HQ2:=HQ.out.kept hsp4.fr (by simp)
        have cy:=HQ2.hd y hyl
        have cyx:=HQ2.el y x hyl hxl
        clear HQ2 hsp4 hkeep4 cx cxy cj hin
        go_wp2_with fail
        refine (qAR w _ w1.heap.size w.heap.size (w.heap.size+1) t.length (entN t y x) mv4 bs4 _ hyx hle hst4.out.sp).mono ?_
        rintro e w5 ⟨rfl,bs5,mv5,hsp5,hkeep5⟩
        have hin:∀ z∈made,z∈oF made' (entN t x y):=by
         obtain ⟨r,hr⟩:=hr4.out
         intro z hz;rw [hr];exact List.mem_append_left _ hz
        have hst5:=Kh (hst4.out.add (hin y HYM.out) (hin x HXM.out) hsp5 hkeep5)
        have hr5:Hid (∃ r,oF (oF made' (entN t x y)) (entN t y x)=made ++ r):=by
         obtain ⟨r,hr⟩:=hr4.out
         obtain ⟨r2,hr2⟩:=lD (oF made' (entN t x y)) (entN t y x)
         exact ⟨r ++ r2,by rw [hr2,hr,List.append_assoc]⟩
        have hpr5:Hid (Arr w5 kb 3 (nats (made.take (p+1)))):=by
         obtain ⟨r,hr⟩:=hr5.out
         exact hkeep5.pre hst4.out.sp hsp5 ⟨made.drop (p+1) ++ r,by rw [hr,← List.append_assoc,List.take_append_drop]⟩ hpr4.out
        clear hsp5 hkeep5 cy cyx hin
        go_wp2
        go_roundg (p+1 - (j+1))
        case measure=>have:=HGJ.out;omega
        case rel=>exact ⟨j+1,_,_,_,by omega,by go_num,hr5.out,hpr5.out,hst5.out⟩
       ·have hlen:p+1≤made'.length:=by
         obtain ⟨r,hr⟩:=HR.out
         rw [hr,List.length_append];omega
        have hm2:=ST'.out.sp.made_le
        go_wp2
        go_roundg (t.length - (p+1))
        case measure=>have:=HGP.out;omega
        case rel=>exact ⟨p+1,made',mv',bs',by omega,by go_num,hlen,ST'.out⟩
     ·go_wp2
      go_roundg (t.length - (k+1))
      case measure=>have:=HG.out;omega
      case rel=>exact ⟨k+1,p,sa1,sc1,gs ++ [k],made,mv,bs,by omega,by rw [HGL.out],rfl,by go_num,hp,by have:=ST.out;rw [← HGL.out] at this;exact this⟩
   ·rw [hbk] at ck
    have hkm:k∈made:=(ST.out.sp.mem k hk).1 hbk
    have HKM:=Kh hkm
    clear hbk hkm
    go_wp2
    go_roundg (t.length - (k+1))
    case measure=>have:=HG.out;omega
    case rel=>exact ⟨k+1,p,sa,sc,gs,made,mv,bs,by omega,rfl,rfl,by go_num,hp,ST.out.sp,ST.out.own,ST.out.ap,ST.out.inv.next HKM.out⟩
  ·go_wp2
   go_ret
   have hk2:k=t.length:=by have:=HG.out;omega
   exact ⟨sa,sc,gs,rfl,Row.of_owns ST.out.own,ST.out.inv.lt,fun x hx=>ST.out.inv.gen x (ST.out.inv.all x (by omega)),ST.out.sp.fr⟩
end Go.Proofs.YtdjhoadoiknaoaaDoor
