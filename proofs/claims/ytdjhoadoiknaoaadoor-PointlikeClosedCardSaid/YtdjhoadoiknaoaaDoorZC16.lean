/- Part 16 of the proof: MapNo, Both, Closure, Advance, RAdv, DfaAt. -/
import Derived.Test.YtdjhoadoiknaoaaDoorZC15
import Derived.Maps.OwnSet
import Derived.Maps.OwnOps
set_option linter.unusedVariables false
set_option linter.unusedSimpArgs false
namespace Go.Proofs.YtdjhoadoiknaoaaDoor
open Go.RowKit Go.Maps
theorem nX:Tryd.prog.underlying 135=some (.map 3 3):=by kernel_rfl
theorem pE:Tryd.prog.underlying 3=some (.int .i64):=by kernel_rfl
theorem zero_int (w:World):(zeroValue 3).run Tryd.prog w=.ok (.int .i64 0) w:=by kernel_rfl
def Mid (x:Int):Prop:=-4611686018427387904 < x∧x < 4611686018427387904
theorem iW {x:Int} (hx:Mid x):(Lit.int .i64 x).wf=true:=by
 have h1:IntKind.i64.min = -9223372036854775808:=rfl
 have h2:IntKind.i64.max=9223372036854775807:=rfl
 obtain ⟨h3,h4⟩:=hx
 simp [Lit.wf];omega
theorem mid_key {x:Int} (hx:Mid x):keyOf Tryd.prog 3 (.int .i64 x)=some (.int .i64 x):=keyOf_int_mk (q:=.i64) (by kernel_rfl) (iW hx)
def MapNo (w:World) (b n:Nat) (l:List Int):Prop :=
 ∃ D:DataW Unit,w.ownsMap Tryd.prog 3 (plainElem Tryd.prog 3) b n D∧size D=l.length ∧
  ∀ x:Int,Mid x→has D (.int .i64 x)=decide (x∈l)∧D.atKey (.int .i64 x) (.lit (.int .i64 0))=.lit (.int .i64 (if x∈l then ((l.idxOf x:Nat):Int) else 0))
theorem MapNo.made (w:World):MapNo (w.alloc (.map #[] 0)) w.heap.size 0 []:=by
 refine ⟨.map [],World.ownsMap_made _ _ _ _,rfl,fun x _=>⟨by simp [has_eq],?_⟩⟩
 rw [WideAt.atKey_none _ (by simp)]
 simp
theorem MapNo.kept {w w':World} {b n:Nat} {l:List Int} {row:Option Nat} (h:MapNo w b n l) (hg:w.grownBy w' row) (hne:row≠some b):MapNo w' b n l:=by
 obtain ⟨D,h1,h2,h3⟩:=h
 exact ⟨D,h1.kept hg (fun e=>hne e.symm),h2,h3⟩
theorem MapNo.mono {w:World} {b n n':Nat} {l:List Int} (h:MapNo w b n l) (hn:n≤n'):MapNo w b n' l:=by
 obtain ⟨D,h1,h2,h3⟩:=h
 exact ⟨D,h1.mono hn,h2,h3⟩
theorem MapNo.lt {w:World} {b n:Nat} {l:List Int} (h:MapNo w b n l):b < w.heap.size:=by
 obtain ⟨D,h1,_⟩:=h
 exact h1.lt
theorem MapNo.lookup {w:World} {b n:Nat} {l:List Int} (h:MapNo w b n l) {x:Int} (hx:Mid x):(Instr.lookup 135 (.map (some b)) (.int .i64 x) true).run Tryd.prog w=.ok (.tuple #[.int .i64 (if x∈l then ((l.idxOf x:Nat):Int) else 0),.bool (decide (x∈l))]) w:=by
 obtain ⟨D,h1,h2,h3⟩:=h
 obtain ⟨v,ps,hrun,hv⟩:=h1.look_ok iH nX (zero_int w) (plainElem_int pE (by decide)) (mid_key hx)
 obtain ⟨c,rfl,hc,_⟩:=plainElem_int_inv pE hv
 obtain ⟨e1,e2⟩:=h3 x hx
 have e3:=congrArg Prod.fst hc
 simp only [e2] at e3
 rw [hrun,e1]
 have e4:(if x∈l then ((l.idxOf x:Nat):Int) else 0)=c:=by
  simp only [Lit.int.injEq,DataW.lit.injEq,true_and] at e3
  exact e3
 rw [e4]
theorem MapNo.len {w:World} {b n:Nat} {l:List Int} (h:MapNo w b n l):(Builtin.len_ #[135] 3 #[.map (some b)]).run Tryd.prog w=.ok (.int .i64 (l.length:Nat)) w:=by
 obtain ⟨D,h1,h2,h3⟩:=h
 have hrun:=h1.len nX 3
 rw [h2] at hrun
 exact hrun
theorem step_putNo {w:World} {ops:Array Oper} {rest:List Oper} {o:Oper} {a:Act} {Q:Exit→Act→World→Prop} (hg:o.guard=none) (m x v:Operand) (hop:o.op=Op.mapUpdate 135 m x v)
  (b n:Nat) (l:List Int) (z:Int) (hm:a.eval m=.map (some b)) (hx:a.eval x=.int .i64 z) (hv:a.eval v=.int .i64 (l.length:Nat)) (h:MapNo w b n l) (hn:n < maxLen) (hz:Mid z) (hnew:z ∉ l) (hll:l.length < 4611686018427387904)
  (hK:∀ w',MapNo w' b (n+1) (l ++ [z])→w.grownBy w' (some b)→wpList Tryd.prog ops Q rest (a.put o.dst undef) w') :
  wpList Tryd.prog ops Q (o :: rest) a w:=by
 obtain ⟨D,h1,h2,h3⟩:=h
 obtain ⟨w',hrun,hown,hgr⟩:=h1.update iH nX hn (mid_key hz) (plainElem_int pE (iW (x:=((l.length:Nat):Int)) ⟨by omega,by omega⟩))
 have hkz:WideAt.IsKeyLit (.int .i64 z):=by simp [WideAt.IsKeyLit]
 refine wpList_plain hg fun K' hK'=>?_
 unfold Oper.wp
 simp [execOp,hop,hm,hx,hv,hrun,Result.andThen]
 refine hK' _ _ (hK w' ⟨_,hown,?_,fun y hy=>?_⟩ hgr)
 ·rw [size_put (h1.tidy iH),(h3 z hz).1,decide_eq_false hnew,h2];simp
 ·by_cases e:y=z
  ·subst e
   refine ⟨by rw [has_put_same h1.isMap hkz];simp,?_⟩
   rw [atKey_put_same h1.isMap hkz,if_pos (by simp),List.idxOf_append,if_neg hnew]
   simp
  ·have hne:(Lit.int .i64 y)≠Lit.int .i64 z:=by intro h;injection h with _ h;exact e h
   obtain ⟨e1,e2⟩:=h3 y hy
   refine ⟨by rw [has_put_other hne,e1];simp [e],?_⟩
   rw [atKey_put_other hne,e2]
   by_cases hyl:y∈l
   ·rw [if_pos hyl,if_pos (by simp [hyl]),List.idxOf_append,if_pos hyl]
   ·rw [if_neg hyl,if_neg (by simp [hyl,e])]
def vX (l:List Nat) (k:Nat):List Nat:=l.take k ++ List.replicate (l.length - k) 0
theorem qG (l:List Nat):vX l 0=List.replicate l.length 0:=by simp [vX]
theorem pG (l:List Nat):vX l l.length=l:=by simp [vX]
theorem xC {l:List Nat} {k:Nat} (h:k≤l.length):(vX l k).length=l.length:=by simp [vX];omega
theorem pF {l:List Nat} {k:Nat} (h:k < l.length):(vX l k).set k (l.getD k 0)=vX l (k+1):=by
 have hl:(l.take k).length=k:=by simp;omega
 unfold vX
 rw [List.set_append_right _ _ (by omega),hl,Nat.sub_self,yF (d:=0) h,show l.length - k=(l.length - (k+1))+1 by omega,List.replicate_succ,List.set_cons_zero,List.append_assoc]
 rfl
def NumOk (w:World) (p:List Nat) (e:Ending) (w':World):Prop :=
 ∃ g,e=.returned (.slice (some ⟨g,0,none⟩) p.length p.length)∧w.heap.size≤g∧Arr w' g 3 (nats p)∧w.grownBy w' none
theorem numb_step {l:List Int} {k:Nat} (hk:k < l.length):(numb l).getD k 0=if l[k]∈yN (l.take k) then (yN (l.take k)).idxOf l[k] else (yN (l.take k)).length:=by
 rw [zV (by rw [xQ];exact hk),nK hk,← numb_take hk,List.take_succ_eq_append_getElem hk,qF]
 by_cases h:l[k]∈yN (l.take k)
 ·rw [rS h,if_pos h]
 ·rw [rT h,if_neg h,List.idxOf_append,if_neg h];simp
set_option maxRecDepth 100000 in
set_option maxHeartbeats 800000 in
theorem number_any (B:Nat) (w:World) (v:Value) (l:List Int) (hB:B≤w.heap.size) (h:Row B w v (ints l)) (hmid:∀ x∈l,Mid x) (hle:l.length≤100000) :
  Calls Tryd.prog 101 #[v] w (NumOk w (numb l)):=by
 have hmm:=@run_makeMap Tryd.prog
 obtain ⟨va,vc,rfl⟩:=h.shape
 rw [zM] at h ⊢
 have H:=Kh h;have HM:=Kh hmid
 clear h hmid
 obtain ⟨w1,hw1⟩:∃ w1,w1=w.alloc (.map #[] 0):=⟨_,rfl⟩
 have hg1:w.grownBy w1 none:=by rw [hw1];exact Ga w _ none
 have hz1:w1.heap.size=w.heap.size+1:=by rw [hw1,zO]
 have HM1:Hid (MapNo w1 w.heap.size 0 []):=Kh (by rw [hw1];exact MapNo.made w)
 have HG1:=Kh hg1;have HW1:=Kh hw1
 clear hg1 hw1
 go_enter Tryd.func101,Tryd.ntmps101
 go_upto_region 2 with fail
 rw [← HW1.out]
 go_wp2_with (first|(at_make;refine make1 rfl _ _ _ rfl yG rfl .i64 .i64 _ _ l.length rfl rfl rfl rfl ?b1 ?b2 ?_)|fail)
 case b1=>omega
 case b2=>unfold maxLen;omega
 intro w2 harr hg2 hlt2
 have HA2:=Kh harr;have HG2:=Kh hg2
 have hz2:=hg2.size
 clear harr hg2
 obtain ⟨g,hg⟩:∃ g,g=w.heap.size+1:=⟨_,rfl⟩
 rw [← hg] at HA2 ⊢
 have hgg:w.heap.size < g:=by omega
 have hgl:g < w2.heap.size:=by omega
 clear hg hlt2
 go_wp2
 go_loopg [5,6,7,8,15] l.length (fun gh a5 a6 a7 a8 i wr=>∃ k:Nat,gh+k=l.length∧i=.int .i64 k∧Arr wr g 3 (nats (vX (numb l) k))∧MapNo wr w.heap.size k (yN (l.take k))∧w.grownBy wr none)
 case atStart=>exact ⟨0,rfl,rfl,by rw [qG,xQ,xX];exact HA2.out,by simpa [yN] using HM1.out.kept HG2.out (by simp),zG HG1.out HG2.out⟩
 case round =>
  clear HA2 HG2
  obtain ⟨k,hg,rfl,harr,hmap,hgr⟩:=hrel
  have HG:=Kh hg;have HA:=Kh harr;have HMP:=Kh hmap;have HGR:=Kh hgr
  have hzr:=hgr.size
  have hln:(numb l).length=l.length:=xQ l
  clear hg hmap
  by_cases hk:k < l.length
  ·have hk':(k:Int) < l.length:=by omega
   obtain ⟨ib,io,ic,e,_,_,_,hra⟩:=(H.out.kept hgr (by simp)).some_ (by rw [zM];omega)
   simp only [Value.slice.injEq] at e
   obtain ⟨rfl,-,-⟩:=e
   have ck:=hra.int k hk
   have hmk:Mid (l.getD k 0):=by rw [zV hk];exact HM.out _ (List.getElem_mem hk)
   have hns:=numb_step hk
   rw [← zV (d:=0) hk] at hns
   have hfk:yN (l.take (k+1))=uT (yN (l.take k)) (l.getD k 0):=by rw [List.take_succ_eq_append_getElem hk,qF,zV hk]
   obtain ⟨x,hx⟩:∃ x,x=l.getD k 0:=⟨_,rfl⟩
   rw [← hx] at ck hmk hns hfk
   have hlen:=rG (l.take k)
   rw [List.length_take] at hlen
   have hlk:=HMP.out.lookup hmk
   have hset:=pF (l:=numb l) (k:=k) (by omega)
   have hfz:=frozen_of_row wr g k
   have cgk:=harr.nat k (by rw [xC (by omega)];omega)
   have hfl:(nats (vX (numb l) k)).length=l.length:=by rw [zN,xC (by omega)];omega
   have fgk:=harr.frozen k
   clear hra hx hgr harr
   by_cases hin:x∈yN (l.take k)
   ·rw [if_pos hin,decide_eq_true hin] at hlk
    rw [if_pos hin] at hns
    have HFK:Hid (yN (l.take (k+1))=yN (l.take k)):=Kh (by rw [hfk,rS hin])
    obtain ⟨c,hc⟩:∃ c,c=(yN (l.take k)).idxOf x:=⟨_,rfl⟩
    rw [← hc] at hlk hns
    rw [hns] at hset
    have HS:=Kh hset
    clear hns hset hc hfk hin
    go_wp2
    go_roundg (l.length - (k+1))
    case measure=>have:=HG.out;omega
    case rel =>
     refine ⟨k+1,by omega,by go_num,?_,?_,?_⟩
     ·rw [← HS.out];exact HA.out.nat_set k (by rw [xC (by omega)];omega) c
     ·rw [HFK.out]
      exact (HMP.out.kept (zH wr ⟨g,k,none⟩ _) (by simp;omega)).mono (by omega)
     ·exact zF HGR.out (zH wr ⟨g,k,none⟩ _) (fun q e=>by have:=Oj e;simp at this;omega)
   ·rw [if_neg hin,decide_eq_false hin] at hlk
    rw [if_neg hin] at hns
    have HFK:Hid (yN (l.take (k+1))=yN (l.take k) ++ [x]):=Kh (by rw [hfk,rT hin])
    have HIN:=Kh hin;have HMK:=Kh hmk
    rw [hns] at hset
    have HS:=Kh hset
    clear hns hset hfk hin cgk fgk
    obtain ⟨L,hL⟩:∃ L,L=yN (l.take k):=⟨_,rfl⟩
    rw [← hL] at HMP HFK HIN HS hlen
    have hlr:=HMP.out.len
    clear hL
    go_wp2_with (first|(at_mapUpdate;refine step_putNo rfl _ _ _ rfl w.heap.size k L x rfl rfl rfl HMP.out (by unfold maxLen;omega) HMK.out HIN.out (by omega) ?_;intro w5 hmap5 hg5;(have ha5:=HA.out.kept hg5 (by simp;omega));(have HMP5:=Kh hmap5);(have HG5:=Kh hg5);(have HA5:=Kh ha5);(have fg5:=ha5.frozen k);(have cg5:=ha5.nat k (by rw [xC (by omega)];omega));clear hmap5 hg5 ha5)|fail)
    go_roundg (l.length - (k+1))
    case measure=>have:=HG.out;omega
    case rel =>
     have hz5:=HG5.out.size
     refine ⟨k+1,by omega,by go_num,?_,?_,?_⟩
     ·rw [← HS.out];exact HA5.out.nat_set k (by rw [xC (by omega)];omega) _
     ·rw [HFK.out]
      exact HMP5.out.kept (zH w5 ⟨g,k,none⟩ _) (by simp;omega)
     ·exact zF (zF HGR.out HG5.out (fun q e=>by have:=Oj e;omega)) (zH w5 ⟨g,k,none⟩ _) (fun q e=>by have:=Oj e;simp at this;omega)
  ·have hkl:k=l.length:=by have:=HG.out;omega
   have HE:Hid (vX (numb l) k=numb l):=Kh (by rw [hkl,← hln];exact pG _)
   clear hkl harr
   go_wp2
   go_ret
   refine ⟨g,by rw [hln];rfl,by omega,?_,HGR.out⟩
   rw [← HE.out];exact HA.out
end Go.Proofs.YtdjhoadoiknaoaaDoor
namespace Go.Proofs.YtdjhoadoiknaoaaDoor
open Go.RowKit
def bothN (p q:List Nat):List Nat:=List.zipWith (fun a b=>a * (p.length+1)+b) p q
theorem oN {p q:List Nat} (h:q.length=p.length):(bothN p q).length=p.length:=by simp [bothN,h]
theorem bothN_ints {p q:List Nat}:nats (bothN p q)=ints (bothL p q):=by
 rw [tE]
 congr 1
 simp only [bothN,bothL,List.map_zipWith]
 congr 1
theorem bothN_get {p q:List Nat} (h:q.length=p.length) {k:Nat} (hk:k < p.length):(bothN p q).getD k 0=p.getD k 0 * (p.length+1)+q.getD k 0:=by
 rw [zV (by rw [oN h];exact hk),zV hk,zV (by omega)]
 simp [bothN]
theorem bothL_mid {p q:List Nat} (hp:∀ c∈p,c < 100000) (hq:∀ c∈q,c < 100000) (hl:p.length≤100000):∀ x∈bothL p q,Mid x:=by
 intro x hx
 obtain ⟨i,hi,rfl⟩:=List.getElem_of_mem hx
 simp only [bothL,List.getElem_zipWith,jS]
 have h1:=hp _ (List.getElem_mem (l:=p) (n:=i) (by simp [bothL] at hi;omega))
 have h2:=hq _ (List.getElem_mem (l:=q) (n:=i) (by simp [bothL] at hi;omega))
 generalize p[i]'(by simp [bothL] at hi;omega)=a at h1 ⊢
 generalize q[i]'(by simp [bothL] at hi;omega)=b at h2 ⊢
 have:a * (p.length+1)≤100000 * 100001:=Nat.mul_le_mul (by omega) (by omega)
 have e:(a:Int) * ((p.length:Int)+1)+b=((a * (p.length+1)+b:Nat):Int):=by push_cast;rfl
 rw [e]
 constructor <;> omega
theorem wrap_both {a m X b:Nat} (hX:X=a * (m+1)) (hXl:X≤10000100000) (hb:b < 100000):wrap64 (wrap64 ((a:Int) * ((m:Int)+1))+(b:Int))=((X+b:Nat):Int):=by
 have hXc:(a:Int) * ((m:Int)+1)=(X:Int):=by rw [hX];push_cast;rfl
 clear hX
 rw [hXc]
 have h9:wrap64 (X:Int)=(X:Int):=IntWalk.wrap64_in _ (by omega)
 rw [h9,← Int.natCast_add]
 exact IntWalk.wrap64_in _ (by omega)
set_option maxRecDepth 100000 in
set_option maxHeartbeats 800000 in
theorem both_any (B C:Nat) (w:World) (va vb:Value) (p q:List Nat) (hB:B≤w.heap.size) (hC:C≤w.heap.size) (ha:Row B w va (nats p)) (hb:Row C w vb (nats q)) (hl:q.length=p.length) (h0:0 < p.length) (hp:∀ c∈p,c < 100000) (hq:∀ c∈q,c < 100000) (hle:p.length≤100000) :
  Calls Tryd.prog 102 #[va,vb] w (NumOk w (both8 p q)):=by
 obtain ⟨pb,po,pc,rfl,hpB,hpc1,hpc2,hra⟩:=ha.some_ (by rw [zN];exact h0)
 obtain ⟨qb,qo,qc,rfl,hqC,hqc1,hqc2,hrb⟩:=hb.some_ (by rw [zN];omega)
 rw [zN] at hpc1 hqc1 ⊢
 rw [zN,hl]
 rw [hl] at hqc1
 have hmx1:pc≤9223372036854775807:=by unfold maxLen at hpc2;omega
 have hmx2:qc≤9223372036854775807:=by unfold maxLen at hqc2;omega
 have RA:=Kh hra;have RB:=Kh hrb;have HL:=Kh hl;have HP:=Kh hp;have HQ:=Kh hq
 have HMID:=Kh (bothL_mid hp hq hle)
 clear hra hrb hl hp hq ha hb
 go_enter Tryd.func102,Tryd.ntmps102
 go_wp2_with (first|(at_make;refine make1 rfl _ _ _ rfl yG rfl .i64 .i64 _ _ p.length rfl rfl rfl rfl ?b1 ?b2 ?_)|fail)
 case b1=>omega
 case b2=>unfold maxLen;omega
 intro w2 harr hg2 hlt2
 have HA2:=Kh harr;have HG2:=Kh hg2
 clear harr hg2
 obtain ⟨g,hg⟩:∃ g,g=w.heap.size:=⟨_,rfl⟩
 have HGE:=Kh hg
 rw [← hg] at HA2 hlt2 hB hC ⊢
 clear hg
 go_wp2
 go_loopg [6,12] p.length (fun gh a6 i wr=>∃ k:Nat,gh+k=p.length∧i=.int .i64 k∧Arr wr g 3 (nats (vX (bothN p q) k))∧w.grownBy wr none)
 case atStart=>exact ⟨0,rfl,rfl,by rw [qG,oN HL.out,xX];exact HA2.out,HG2.out⟩
 case round =>
  clear HA2 HG2
  obtain ⟨k,hg,rfl,harr,hgr⟩:=hrel
  have HG:=Kh hg;have HA:=Kh harr;have HGR:=Kh hgr
  have hln:(bothN p q).length=p.length:=oN HL.out
  clear hg
  by_cases hk:k < p.length
  ·have hk':(k:Int) < p.length:=by omega
   have ca:=(RA.out.kept hgr (by simp)).nat k hk
   have cb:=(RB.out.kept hgr (by simp)).nat k (by rw [HL.out];exact hk)
   have hset:=pF (l:=bothN p q) (k:=k) (by omega)
   rw [bothN_get HL.out hk] at hset
   have hpk:=nM (i:=k) HP.out (by omega)
   have hqk:=nM (i:=k) HQ.out (by omega)
   have cgk:=harr.nat k (by rw [xC (by omega)];omega)
   have fgk:=harr.frozen k
   obtain ⟨a,ha⟩:∃ a,a=p.getD k 0:=⟨_,rfl⟩
   obtain ⟨b,hb⟩:∃ b,b=q.getD k 0:=⟨_,rfl⟩
   rw [← ha] at ca hset hpk
   rw [← hb] at cb hset hqk
   obtain ⟨X,hX⟩:∃ X,X=a * (p.length+1):=⟨_,rfl⟩
   have hXl:X≤10000100000:=by
    have h8:a * (p.length+1)≤100000 * 100001:=Nat.mul_le_mul (by omega) (by omega)
    omega
   rw [← hX] at hset
   have hw:=wrap_both hX hXl hqk
   have HW:=Kh hw
   have HS:=Kh hset
   have ca':wr.drew.cell? ⟨pb,po+k,none⟩=some (.int .i64 (a:Int)):=ca
   have cb':wr.drew.cell? ⟨qb,qo+k,none⟩=some (.int .i64 (b:Int)):=cb
   have hpg:pb≠g:=by omega
   have hqg:qb≠g:=by omega
   have HS1:Hid (∀ u,((wr.setCell ⟨g,k,none⟩ u).drew.cell? ⟨pb,po+k,none⟩=some (.int .i64 (a:Int)))):=Kh (fun u=>by
    show (wr.setCell ⟨g,k,none⟩ u).cell? ⟨pb,po+k,none⟩=_
    rw [World.cell?_of_block ((zH wr ⟨g,k,none⟩ u).block pb (by have:=hgr.size;have:=HGE.out;omega) (by simp;omega))];exact ca)
   have HS2:Hid (∀ u,((wr.setCell ⟨g,k,none⟩ u).drew.cell? ⟨qb,qo+k,none⟩=some (.int .i64 (b:Int)))):=Kh (fun u=>by
    show (wr.setCell ⟨g,k,none⟩ u).cell? ⟨qb,qo+k,none⟩=_
    rw [World.cell?_of_block ((zH wr ⟨g,k,none⟩ u).block qb (by have:=hgr.size;have:=HGE.out;omega) (by simp;omega))];exact cb)
   clear ha hb hset hgr harr hX hw
   go_upto_region 5 with fail
   go_region_held3 (fun w'=>w'.cell? ⟨pb,po+k,none⟩=some (.int .i64 (a:Int))∧w'.cell? ⟨qb,qo+k,none⟩=some (.int .i64 (b:Int))) (first|exact ⟨ca',cb'⟩|exact ⟨HS1.out _,HS2.out _⟩|go_keep|fail) (fail)
   all_goals
    clear ca ca' cb cb' HS1 HS2 cgk fgk
    go_wp2
    go_roundg (p.length - (k+1))
    case measure=>have:=HG.out;omega
    case rel =>
     refine ⟨k+1,by omega,by go_num,?_,?_⟩
     ·rw [← HS.out]
      have h1:=HA.out.nat_set k (by rw [xC (by omega)];omega) (X+b)
      rw [HW.out]
      exact h1.of_heap rfl
     ·exact xJ (zF HGR.out (zH wr ⟨g,k,none⟩ _) (fun q e=>by have h7:g=q:=Oj e;have:=HGE.out;omega)) rfl rfl rfl rfl
  ·have hkl:k=p.length:=by have:=HG.out;omega
   have HE:Hid (vX (bothN p q) k=bothN p q):=Kh (by rw [hkl,← hln];exact pG _)
   clear hkl harr
   go_wp2_with fail
   rw [HE.out] at HA
   have HN:=Kh (number_any (g+1) wr (.slice (some ⟨g,0,none⟩) p.length p.length) (bothL p q) HA.out.lt (by
    rw [← bothN_ints]
    exact .inr ⟨g,0,p.length,by rw [zN,hln],by omega,by rw [zN,hln];exact Nat.le_refl _,by unfold maxLen;omega,HA.out.row⟩) HMID.out (by rw [qT HL.out];exact hle))
   go_wp2_with fail
   refine HN.out.mono ?_
   rintro e w5 ⟨g5,rfl,hg5,ha5,hgr5⟩
   have hb8:numb (bothL p q)=both8 p q:=rfl
   have HA5:=Kh ha5;have HG5:=Kh hgr5
   clear ha5 hgr5
   go_wp2
   go_ret
   refine ⟨g5,rfl,?_,HA5.out,zG HGR.out HG5.out⟩
   have:=HGR.out.size
   omega
theorem fam_set {w:World} {b:Nat} {x y:Value} {e:Nat} (h:w.heap[b]?=some (.cells #[x,y] e (0,0))) (x' y':Value) :
  ((w.setCell ⟨b,0,none⟩ x').setCell ⟨b,1,none⟩ y').heap[b]?=some (.cells #[x',y'] e (0,0)):=by
 have h1:=heap_setCell_same w b 0 _ _ x' h
 have h2:=heap_setCell_same _ b 1 _ _ y' h1
 rw [h2];simp
set_option maxHeartbeats 800000 in
theorem mB (B:Nat) (w:World) (v iv:Value) (t:List (List Int)) (im:List Int) (hB:B≤w.heap.size) (h:Mat B w v t) (hi:Row B w iv (ints im)) (hT:TabOk w) :
  Calls Tryd.prog 16 #[v,iv] w (ClosureOk w t im):=by
 have HBG:=Kh (begin_any B w v iv t im hB h hi hT)
 have H:=Kh h;have HI:=Kh hi;have HT:=Kh hT
 clear h hi hT
 go_enter Tryd.func16,Tryd.ntmps16
 go_wp2_with fail
 refine HBG.out.mono ?_
 rintro e w1 ⟨hg1,hc⟩
 have HG1:=Kh hg1
 have hz1:=hg1.size
 clear HBG hg1
 rcases hc with ⟨hz,rfl⟩|⟨hz,sa,sc,rfl,hown⟩
 ·obtain ⟨E,hE⟩:∃ E,E=yO t im:=⟨_,rfl⟩
  rw [← hE] at hz ⊢
  have HE:=Kh hE
  have e1:(E != 0)=true:=by rw [bne_iff_ne];exact hz
  clear hE
  go_wp2
  refine bodyPost_ret (v:=.tuple #[.slice none 0 0,.int .i64 E]) (by simp [results,Tryd.results16,go_sem]) rfl ?_
  exact ⟨zF HG1.out (Ga _ _ none) (by simp),.inl ⟨by rw [← HE.out];exact hz,by rw [← HE.out]⟩⟩
 ·have hgd:=wV.1 hz
  have HGD:=Kh hgd;have HZ:=Kh hz
  have hle:=hgd.le
  have hva:=hgd.valid
  have HTB:=Kh (tb_of hva)
  have HVA:=Kh hva
  have hpos:=start_pos hgd
  obtain ⟨k0,rfl,hsc1,hsc2,harr⟩:=yQ hown hpos
  have hkl:=hown.lt k0 rfl
  obtain ⟨l0,hl0⟩:∃ l0,l0=tB t im:=⟨_,rfl⟩
  rw [← hl0] at hpos hown hsc1 harr ⊢
  have HOWN:=Kh hown
  have HL0:=Kh hl0
  have HF0:Hid (FamOk t.length (l0,false)):=Kh (by rw [hl0];exact lL hgd)
  clear hown harr hl0 hgd hva hz
  go_wp2_with fail
  obtain ⟨wA,hWA⟩:∃ wA,wA=w1.alloc (.cells #[.slice (some ⟨k0,0,none⟩) l0.length sc,.bool false] 49):=⟨_,rfl⟩
  have hrb:wA.heap[w1.heap.size]?=some (.cells #[.slice (some ⟨k0,0,none⟩) l0.length sc,.bool false] 49 (0,0)):=by rw [hWA];exact heap_alloc_new w1 _
  have hgA:w1.grownBy wA none:=by rw [hWA];exact Ga w1 _ none
  have hzA:wA.heap.size=w1.heap.size+1:=by rw [hWA,zO]
  rw [← hWA]
  have HGA:=Kh (zG HG1.out hgA);have HRA:=Kh hrb
  have HO:=Kh (yB HOWN.out hgA (by simp))
  have HTA:=Kh (HT.out.kept HGA.out (by simp))
  have hgt0:=HT.out.1
  have hgt:1 < wA.heap.size:=by omega
  refine (tY B wA v t (by omega) (H.out.kept HGA.out (by simp)) HVA.out hle HTA.out).mono ?_
  rintro e w2 ⟨p,go,rfl,hs2,hg2⟩
  have hz2:=hg2.size
  have HS2:=Kh hs2
  have HHE:Hid (Held wA.heap.size w2.heap.size w1.heap.size w2 k0 sc l0):=Kh (Held.of_owns (yB HO.out hg2 (by simp)) hpos (.inl (by omega)) (by omega))
  have HRB:=Kh (zE hrb hg2 (by simp))
  have HGR:=Kh (zG HGA.out hg2)
  have HT2:=Kh (HTA.out.kept hg2 (by simp))
  have HGO:Hid (Going t.length (entN t) l0 l0 false):=Kh ⟨HF0.out,0,rfl⟩
  clear hWA hrb hgA HRA HO hs2 hg2 HOWN HTA HG1
  go_wp2_with fail
  go_loopg [] (togo t.length l0 false) (fun gh wr=>∃ (k sc:Nat) (l:List Nat) (d:Bool),gh=togo t.length l d∧Going t.length (entN t) l0 l d∧0 < l.length∧Held wA.heap.size w2.heap.size w1.heap.size wr k sc l∧wH wA.heap.size w2.heap.size wr p go t.length (entN t)∧w2.heap.size≤wr.heap.size∧TabOk wr∧w.grownBy wr none∧wr.heap[w1.heap.size]?=some (.cells #[.slice (some ⟨k,0,none⟩) l.length sc,.bool d] 49 (0,0)))
  case atStart=>exact ⟨k0,sc,l0,false,rfl,HGO.out,hpos,HHE.out,HS2.out,Nat.le_refl _,HT2.out,HGR.out,HRB.out⟩
  case round =>
   clear HGO HHE HS2 HT2 HGR HRB hsc1 hsc2
   obtain ⟨k,sc,l,d,hg,hgo,hl0,hhe,hs,hzr,hT,hgr,hrb⟩:=hrel
   have HG:=Kh hg;have HGO:=Kh hgo;have HHE:=Kh hhe;have HS:=Kh hs;have HTR:=Kh hT;have HGR:=Kh hgr;have HRB:=Kh hrb
   have cr0:=zI hrb 0 (by simp)
   have cr1:=zI hrb 1 (by simp)
   have fr0:=zD hrb 0
   have fr1:=zD hrb 1
   simp only [List.getElem_toArray,List.getElem_cons_zero,List.getElem_cons_succ] at cr0 cr1
   clear hg hgo hhe hs hT hgr hrb
   cases d with
   | false =>
    go_wp2_with fail
    have hgl:=HS.out.go_lt
    have hll:=HGO.out.le
    have hp4:=uG hle
    refine (round_any wA.heap.size w2.heap.size wr.heap.size wr p go t.length (entN t) _ false l HS.out HTB.out hle HHE.out.rowO hl0 HGO.out.1.1 (by omega) (Nat.le_refl _) hzr hgt HTR.out).mono ?_
    rintro e w3 ⟨sa3,sc3,rfl,hown3,hs3,hg3⟩
    have hpos3:=jC HTB.out HGO.out.1.1 hl0
    obtain ⟨k3,rfl,hc1,hc2,_⟩:=yQ hown3 hpos3
    have hk3:=hown3.lt k3 rfl
    have HM:Hid (togo t.length (yA t.length (entN t) l) (decide (yA t.length (entN t) l=l)) < togo t.length l false):=Kh (HGO.out.less HTB.out)
    have HGN:=Kh (HGO.out.step HTB.out)
    obtain ⟨R,hR⟩:∃ R,R=yA t.length (entN t) l:=⟨_,rfl⟩
    obtain ⟨D,hD⟩:∃ D,D=decide (yA t.length (entN t) l=l):=⟨_,rfl⟩
    rw [← hD,← hR] at HM HGN
    rw [← hD]
    rw [← hR] at hown3 hpos3 hc1 ⊢
    have hr3:=zE HRB.out hg3 (fun e=>by have:go=w1.heap.size:=Oj e;omega)
    have HR3:=Kh hr3
    have cr0':=zI hr3 0 (by simp)
    have cr1':=zI hr3 1 (by simp)
    have fr0':=zD hr3 0
    have fr1':=zD hr3 1
    simp only [List.getElem_toArray,List.getElem_cons_zero,List.getElem_cons_succ] at cr0' cr1'
    have HH3:Hid (Held wA.heap.size w2.heap.size w1.heap.size w3 k3 sc3 R):=Kh (Held.of_owns hown3 hpos3 (.inr (by omega)) (by omega))
    have HS3:=Kh hs3
    have HT3:=Kh (HTR.out.kept hg3 (fun e=>by have:=Oj e;omega))
    have hz3:=hg3.size
    have HG3:Hid (w.grownBy w3 none):=Kh (zF HGR.out hg3 (fun x e=>by have:go=x:=Oj e;omega))
    clear hown3 hs3 hg3 hr3 hR hD cr0 cr1 fr0 fr1
    go_wp2
    have hs5:w3.grownBy ((w3.setCell ⟨w1.heap.size,0,none⟩ (.slice (some ⟨k3,0,none⟩) R.length sc3)).setCell ⟨w1.heap.size,1,none⟩ (.bool D)) (some w1.heap.size) :=
     zG (zH w3 ⟨w1.heap.size,0,none⟩ _) (zH (w3.setCell ⟨w1.heap.size,0,none⟩ (.slice (some ⟨k3,0,none⟩) R.length sc3)) ⟨w1.heap.size,1,none⟩ _)
    have HR5:=Kh (fam_set HR3.out (.slice (some ⟨k3,0,none⟩) R.length sc3) (.bool D))
    have HG5:=Kh hs5
    clear hs5
    go_roundg (togo t.length R D)
    case measure=>rw [HG.out];exact HM.out
    case rel=>exact ⟨k3,sc3,R,D,rfl,HGN.out,hpos3,HH3.out.kept HG5.out (fun e=>by have:w1.heap.size=k3:=Oj e;omega),HS3.out.kept HG5.out (fun q e=>by have:w1.heap.size=q:=Oj e;omega),by have:=HG5.out.size;omega,HT3.out.kept HG5.out (fun e=>by have:=Oj e;omega),zF HG3.out HG5.out (fun x e=>by have:w1.heap.size=x:=Oj e;omega),HR5.out⟩
   | true =>
    go_wp2
    refine bodyPost_ret (v:=.tuple #[.slice (some ⟨k,0,none⟩) l.length sc,.int .i64 0]) (by simp [results,Tryd.results16,go_sem]) rfl ?_
    refine ⟨HGR.out,.inr ⟨HZ.out,_,rfl,?_⟩⟩
    have:=HGO.out.stop HTB.out HF0.out
    unfold uI
    rw [← HL0.out,← this]
    exact HHE.out.rowO.row
theorem qZ (w:World) (c1 c2:Array Value) (e:Nat):((w.alloc (.cells c1 e)).alloc (.cells c2 e)).heap[w.heap.size]?=some (.cells c1 e (0,0))∧((w.alloc (.cells c1 e)).alloc (.cells c2 e)).heap[w.heap.size+1]?=some (.cells c2 e (0,0))∧w.grownBy ((w.alloc (.cells c1 e)).alloc (.cells c2 e)) none∧((w.alloc (.cells c1 e)).alloc (.cells c2 e)).heap.size=w.heap.size+2:=by
 refine ⟨zE (heap_alloc_new w _) (Ga _ _ none) (by simp),?_,xG (Ga w _ none) _,by rw [zO,zO]⟩
 have:=heap_alloc_new (w.alloc (.cells c1 e)) (.cells c2 e)
 rw [zO] at this
 exact this
theorem Arr.ne {w:World} {g pb e e':Nat} {xs:List Value} {cs:Array Value} {m:Nat × Nat} (h:Arr w g e xs) (hb:w.heap[pb]?=some (.cells cs e' m)) (hne:e≠e'):g≠pb:=by
 rintro rfl
 obtain ⟨cur,rest,h1,_⟩:=h
 rw [h1] at hb
 simp only [Option.some.injEq,Obj.cells.injEq] at hb
 exact hne hb.2.1
theorem cast_dec {l m:List Nat}:decide ((l.map fun (x:Nat)=>(x:Int))=m.map fun (x:Nat)=>(x:Int))=decide (l=m):=by
 rw [← cast_inj (l:=l) (m:=m),Bool.eq_iff_iff,decide_eq_true_eq,beq_iff_eq]
structure DAt (B:Nat) (w:World) (d:DfaV) (n k fb fo fc b off cap:Nat) (RB RO RC:Nat→Nat):Prop where
 ok:VD d n k
 flt:fb < B
 frow:RowAt w fb fo (bls d.final)
 fcap:n≤fc∧fc≤maxLen
 blt:b < B
 bltw:b < w.heap.size
 cap:n≤cap∧cap≤maxLen
 hd:∀ q,q < n→w.cell? ⟨b,off+q,none⟩=some (.slice (some ⟨RB q,RO q,none⟩) k (RC q))
 el:∀ q a,q < n→a < k→w.cell? ⟨RB q,RO q+a,none⟩=some (.int .i64 ((nx d q a:Nat):Int))
 rlt:∀ q,q < n→RB q < B∧RB q < w.heap.size
 rcap:∀ q,q < n→k≤RC q∧RC q≤maxLen
theorem DAt.kept {B:Nat} {w w':World} {d:DfaV} {n k fb fo fc b off cap:Nat} {RB RO RC:Nat→Nat} {row:Option Nat} (h:DAt B w d n k fb fo fc b off cap RB RO RC) (hg:w.grownBy w' row) (hr:∀ k,row=some k→B≤k):DAt B w' d n k fb fo fc b off cap RB RO RC where
 ok:=h.ok
 flt:=h.flt
 frow:=h.frow.kept hg (fun e=>by have:=hr _ e;have:=h.flt;omega)
 fcap:=h.fcap
 blt:=h.blt
 bltw:=Nat.lt_of_lt_of_le h.bltw hg.size
 cap:=h.cap
 hd:=fun q hq=>(World.cell?_of_block (hg.block b h.bltw (fun e=>by have:=hr b e.symm;have:=h.blt;omega))).trans (h.hd q hq)
 el:=fun q a hq ha=>(World.cell?_of_block (hg.block (RB q) (h.rlt q hq).2 (fun e=>by have:=hr _ e.symm;have:=(h.rlt q hq).1;omega))).trans (h.el q a hq ha)
 rlt:=fun q hq=>⟨(h.rlt q hq).1,Nat.lt_of_lt_of_le (h.rlt q hq).2 hg.size⟩
 rcap:=h.rcap
theorem DAt.fin {B:Nat} {w:World} {d:DfaV} {n k fb fo fc b off cap:Nat} {RB RO RC:Nat→Nat} (h:DAt B w d n k fb fo fc b off cap RB RO RC) {q:Nat} (hq:q < n):w.cell? ⟨fb,fo+q,none⟩=some (.bool (d.final.getD q false)):=by
 have hl:=h.ok.hn
 have:=RowAt.map h.frow q (by omega)
 rw [this,zV (by omega)]
def dAgg (k st fb fo fc b off cap n:Nat):Value:=.agg #[.int .i64 (k:Int),.int .i64 (st:Int),.slice (some ⟨fb,fo,none⟩) n fc,.slice (some ⟨b,off,none⟩) n cap]
theorem DfaOk.at {B:Nat} {w:World} {v:Value} {d:DfaV} {n k:Nat} (h:DfaOk B w v d) (hd:VD d n k) :
  ∃ fb fo fc b off cap RB RO RC,v=dAgg k (st0 d) fb fo fc b off cap n∧DAt B w d n k fb fo fc b off cap RB RO RC:=by
 obtain ⟨fv,nv,rfl,hf,hn⟩:=h
 obtain ⟨fb,fo,fc,rfl,h1,h2,h3,h4⟩:=hf.some_ (by rw [wP,hd.hn];exact hd.n1)
 obtain ⟨b,off,cap,A,C,rfl,k1,k2,k3⟩:=hn.some_ (by rw [hd.nl];exact hd.n1)
 have hr:∀ q,∃ rb ro,q < n→A q=some ⟨rb,ro,none⟩∧rb < B∧k≤C q∧C q≤maxLen∧RowAt w rb ro (ints (d.next.getD q [])):=by
  intro q
  by_cases hq:q < n
  ·have hl:=hd.row q hq
   obtain ⟨rb,ro,c,e,h4,h5,h6,h7⟩:=(k3.row q (by rw [hd.nl];exact hq)).some_ (by rw [zM,hl];exact hd.k1)
   simp only [Value.slice.injEq] at e
   rw [zM,hl] at h5
   exact ⟨rb,ro,fun _=>⟨e.1,h4,by rw [e.2.2];exact h5,by rw [e.2.2];exact h6,h7⟩⟩
  ·exact ⟨0,0,fun h=>absurd h hq⟩
 obtain ⟨RB,hRB⟩:=Classical.axiomOfChoice hr
 obtain ⟨RO,hRO⟩:=Classical.axiomOfChoice hRB
 rw [wP,hd.hn] at h2
 rw [hd.nl] at k1
 refine ⟨fb,fo,fc,b,off,cap,RB,RO,C,?_,hd,h1,h4,⟨h2,h3⟩,k3.lt,k3.ltw,⟨k1,k2⟩,fun q hq=>?_,fun q a hq ha=>?_,fun q hq=>?_,fun q hq=>?_⟩
 ·rw [dAgg,st0_cast hd,hd.hk,wP,hd.hn,hd.nl]
 ·rw [k3.hd q (by rw [hd.nl];exact hq),(hRO q hq).1,hd.row q hq]
 ·rw [(hRO q hq).2.2.2.2.int a (by rw [hd.row q hq];exact ha),nx_cast hd hq ha]
  rfl
 ·have:=hRO q hq
  exact ⟨this.2.1,this.2.2.2.2.1⟩
 ·have:=hRO q hq
  exact ⟨this.2.2.1,this.2.2.2.1⟩
theorem zR {w:World} {p:Nat} {x0 x1 x2 x3:Value} {e:Nat} (h:w.heap[p]?=some (.cells #[x0,x1,x2,x3] e (0,0))) :
  w.cell? ⟨p,0,none⟩=some x0∧w.cell? ⟨p,1,none⟩=some x1∧w.cell? ⟨p,2,none⟩=some x2∧w.cell? ⟨p,3,none⟩=some x3:=by
 have c0:=zI h 0 (by simp)
 have c1:=zI h 1 (by simp)
 have c2:=zI h 2 (by simp)
 have c3:=zI h 3 (by simp)
 simp only [List.getElem_toArray,List.getElem_cons_zero,List.getElem_cons_succ] at c0 c1 c2 c3
 exact ⟨c0,c1,c2,c3⟩
theorem mG {w:World} {g n:Nat} {l:List Nat} (h:RowAt w g 0 (nats l)) (hl:l.length=n) (hn:n≤9223372036854775807):Row (g+1) w (.slice (some ⟨g,0,none⟩) n n) (nats l) :=
 .inr ⟨g,0,n,by rw [zN,hl],by omega,by rw [zN,hl];exact Nat.le_refl _,by unfold maxLen;omega,h⟩
theorem colTo_take {d:DfaV} {p:List Nat} {a q:Nat} (hq:q < p.length):(colTo d p a).take (q+1)=(colTo d p a).take q ++ [p.getD (nx d q a) 0]:=by
 rw [yF (d:=0) (by rw [sY];exact hq),kR hq]
theorem colTo_lt {d:DfaV} {p:List Nat} {n a:Nat} (h:∀ c∈p,c < n) (hn:0 < n):∀ c∈colTo d p a,c < n:=by
 intro c hc
 obtain ⟨q,hq,rfl⟩:=List.mem_map.1 hc
 exact nM h hn
end Go.Proofs.YtdjhoadoiknaoaaDoor
