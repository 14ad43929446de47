/- Part 44 of the proof: DerP, DerAdd. -/
import Derived.Test.YtdjhoadoiknaoaaDoorZC43
set_option linter.unusedVariables false
set_option linter.unusedSimpArgs false
namespace Go.Proofs.YtdjhoadoiknaoaaDoor
structure DerI (n:Nat) (ss:List StepV) (ix:List Nat):Prop where
 len:ix.length=2 ^ n
 at_:∀ x,x < 2 ^ n→ix.getD x 0=0∨(1≤ix.getD x 0∧ix.getD x 0≤ss.length∧(ss.getD (ix.getD x 0 - 1) default).set=(x:Int))
 of_:∀ i,i < ss.length→∃ x:Nat,x < 2 ^ n∧(ss.getD i default).set=(x:Int)∧ix.getD x 0=i+1
theorem DerI.le {n:Nat} {ss:List StepV} {ix:List Nat} (h:DerI n ss ix):ss.length≤2 ^ n:=by
 rcases Nat.lt_or_ge (2 ^ n) ss.length with hl|hl
 ·exfalso
  obtain ⟨i,j,hij,hj,e⟩:=iV (2 ^ n) (fun i=>(ss.getD i default).set.toNat) (fun i hi=>by
   obtain ⟨x,hx,ex,_⟩:=h.of_ i (by omega)
   rw [ex,Int.toNat_natCast];exact hx)
  obtain ⟨x,hx,ex,ix1⟩:=h.of_ i (by omega)
  obtain ⟨y,hy,ey,iy1⟩:=h.of_ j (by omega)
  rw [ex,ey,Int.toNat_natCast,Int.toNat_natCast] at e
  subst e
  omega
 ·exact hl
theorem derI_nil (n:Nat):DerI n [] (List.replicate (2 ^ n) 0) where
 len:=by simp
 at_:=fun x hx=>.inl (by rw [zV (by simpa using hx)];simp)
 of_:=fun i hi=>absurd hi (by simp)
def addS (ss:List StepV) (ix:List Nat) (st:StepV) (x:Nat):List StepV × List Nat:=if ix.getD x 0=0 then (ss ++ [st],ix.set x (ss.length+1)) else (ss,ix)
theorem nV {ss:List StepV} {ix:List Nat} {st:StepV} {x:Nat} (h:ix.getD x 0=0):addS ss ix st x=(ss ++ [st],ix.set x (ss.length+1)):=if_pos h
theorem nT {ss:List StepV} {ix:List Nat} {st:StepV} {x:Nat} (h:ix.getD x 0≠0):addS ss ix st x=(ss,ix):=if_neg h
theorem DerI.add {n:Nat} {ss:List StepV} {ix:List Nat} {st:StepV} {x:Nat} (h:DerI n ss ix) (hx:x < 2 ^ n) (e:st.set=(x:Int)):DerI n (addS ss ix st x).1 (addS ss ix st x).2:=by
 by_cases h0:ix.getD x 0=0
 ·rw [nV h0]
  refine ⟨by rw [List.length_set];exact h.len,fun y hy=>?_,fun i hi=>?_⟩
  ·by_cases exy:x=y
   ·subst exy
    rw [xO _ _ _ _ (by rw [h.len];exact hx)]
    exact .inr ⟨by omega,by simp,by rw [Nat.add_sub_cancel,vV];exact e⟩
   ·rw [getD_set_ne _ _ _ _ _ exy]
    rcases h.at_ y hy with h1|⟨h1,h2,h3⟩
    ·exact .inl h1
    ·exact .inr ⟨h1,by rw [List.length_append,List.length_singleton];omega,by rw [uW _ _ (by omega)];exact h3⟩
  ·rw [List.length_append,List.length_singleton] at hi
   rcases Nat.lt_succ_iff_lt_or_eq.1 hi with hi|rfl
   ·obtain ⟨y,hy,ey,iy⟩:=h.of_ i hi
    refine ⟨y,hy,by rw [uW _ _ hi];exact ey,?_⟩
    rw [getD_set_ne _ _ _ _ _ (fun exy=>by subst exy;omega)];exact iy
   ·exact ⟨x,hx,by rw [vV];exact e,by rw [xO _ _ _ _ (by rw [h.len];exact hx)]⟩
 ·rw [nT h0];exact h
def IxLe (ix ix':List Nat):Prop:=∀ y,ix.getD y 0≠0→ix'.getD y 0=ix.getD y 0
theorem IxLe.refl (ix:List Nat):IxLe ix ix:=fun _ _=>rfl
theorem IxLe.trans {a b c:List Nat} (h:IxLe a b) (k:IxLe b c):IxLe a c:=fun y hy=>by rw [k y (by rw [h y hy];exact hy),h y hy]
theorem IxLe.ne {a b:List Nat} (h:IxLe a b) {y:Nat} (hy:a.getD y 0≠0):b.getD y 0≠0:=by rw [h y hy];exact hy
theorem kT {n:Nat} {ss:List StepV} {ix:List Nat} {st:StepV} {x:Nat} (h:DerI n ss ix) (hx:x < 2 ^ n):IxLe ix (addS ss ix st x).2∧(addS ss ix st x).2.getD x 0≠0:=by
 by_cases h0:ix.getD x 0=0
 ·rw [nV h0]
  refine ⟨fun y hy=>?_,by rw [xO _ _ _ _ (by rw [h.len];exact hx)];omega⟩
  rw [getD_set_ne _ _ _ _ _ (fun e=>by subst e;exact hy h0)]
 ·rw [nT h0];exact ⟨IxLe.refl _,h0⟩
structure DerS (t:List (List Int)) (im:List Int) (ss:List StepV) (ix:List Nat):Prop where
 i:DerI t.length ss ix
 d:Ders t im ss
section
variable {t:List (List Int)} {im:List Int} {ss:List StepV} {ix:List Nat}
theorem DerS.at_set (h:DerS t im ss ix) {x:Nat} (hx:x < 2 ^ t.length) (h0:ix.getD x 0≠0):ix.getD x 0 - 1 < ss.length∧(ss.getD (ix.getD x 0 - 1) default).set=(x:Int):=by
 rcases h.i.at_ x hx with h1|⟨h1,h2,h3⟩
 ·exact absurd h1 h0
 ·exact ⟨by omega,h3⟩
theorem DerS.product (hg:Good t im) (h:DerS t im ss ix) {a b:Nat} (ha:a < 2 ^ t.length) (hb:b < 2 ^ t.length) (ka:ix.getD a 0≠0) (kb:ix.getD b 0≠0) :
  DerS t im (addS ss ix ⟨2,(ix.getD a 0 - 1:Nat),(ix.getD b 0 - 1:Nat),⟨#[]⟩,((zP t.length (entN t) a b:Nat):Int)⟩ (zP t.length (entN t) a b)).1 (addS ss ix ⟨2,(ix.getD a 0 - 1:Nat),(ix.getD b 0 - 1:Nat),⟨#[]⟩,((zP t.length (entN t) a b:Nat):Int)⟩ (zP t.length (entN t) a b)).2:=by
 refine ⟨h.i.add (xU (tb_of hg.valid).lt _ _) rfl,?_⟩
 by_cases h0:ix.getD (zP t.length (entN t) a b) 0=0
 ·rw [nV h0]
  exact h.d.product hg (h.at_set ha ka).1 (h.at_set hb kb).1 (h.at_set ha ka).2 (h.at_set hb kb).2
 ·rw [nT h0];exact h.d
theorem DerS.omega (hg:Good t im) (h:DerS t im ss ix) {a:Nat} (ha:a < 2 ^ t.length) (ka:ix.getD a 0≠0) :
  DerS t im (addS ss ix ⟨3,(ix.getD a 0 - 1:Nat),0,⟨#[]⟩,((yC t.length (entN t) a:Nat):Int)⟩ (yC t.length (entN t) a)).1 (addS ss ix ⟨3,(ix.getD a 0 - 1:Nat),0,⟨#[]⟩,((yC t.length (entN t) a:Nat):Int)⟩ (yC t.length (entN t) a)).2:=by
 refine ⟨h.i.add (vO (tb_of hg.valid) ha) rfl,?_⟩
 by_cases h0:ix.getD (yC t.length (entN t) a) 0=0
 ·rw [nV h0]
  exact h.d.om hg (h.at_set ha ka).1 (h.at_set ha ka).2
 ·rw [nT h0];exact h.d
theorem DerS.word (hg:Good t im) (h:DerS t im ss ix) {wd:ByteArray} (hv:yH wd im.length=true) {x:Nat} (e:x=2 ^ walkV t im (oneN t) wd.data.toList) :
  DerS t im (addS ss ix ⟨1,0,0,wd,(x:Int)⟩ x).1 (addS ss ix ⟨1,0,0,wd,(x:Int)⟩ x).2:=by
 have hl:∀ c∈wd.data.toList,sV im.length c=true:=by
  have:=hv
  simp only [yH,Bool.and_eq_true,List.all_eq_true] at this;exact this.2
 have hlt:x < 2 ^ t.length:=by rw [e];exact Nat.pow_lt_pow_right (by omega) (mD hg _ _ hl (oC hg).1)
 refine ⟨h.i.add hlt rfl,?_⟩
 by_cases h0:ix.getD x 0=0
 ·rw [nV h0,e];exact h.d.word hg hv
 ·rw [nT h0];exact h.d
theorem derS_nil (t:List (List Int)) (im:List Int):DerS t im [] (List.replicate (2 ^ t.length) 0):=⟨derI_nil _,Ders.nil⟩
end
def renum (no:List Nat) (s:StepV):StepV:=if s.op=1 then s else if s.op=2 then { s with a:=(no.getD s.a.toNat 0:Nat),b:=(no.getD s.b.toNat 0:Nat) } else { s with a:=(no.getD s.a.toNat 0:Nat) }
structure MarksOk (ss:List StepV) (bs:List Bool) (k:Nat):Prop where
 len:bs.length=ss.length
 last:bs.getD (ss.length - 1) false=true
 a:∀ i,k≤i→i < ss.length→bs.getD i false=true→(ss.getD i default).op≠1→bs.getD (ss.getD i default).a.toNat false=true
 b:∀ i,k≤i→i < ss.length→bs.getD i false=true→(ss.getD i default).op=2→bs.getD (ss.getD i default).b.toNat false=true
structure ListOk (t:List (List Int)) (im:List Int) (ss:List StepV) (bs:List Bool) (no:List Nat) (k:Nat) (l:List StepV):Prop where
 len:no.length=ss.length
 ok:tU t im l l.length
 le:l.length≤k
 nos:∀ i,i < k→bs.getD i false=true→no.getD i 0 < l.length∧(l.getD (no.getD i 0) default).set=(ss.getD i default).set∧(l.getD (no.getD i 0) default).word=(ss.getD i default).word
 wz:∀ i,i < l.length→(l.getD i default).word.size≤maxLen
 lastn:0 < k→bs.getD (k - 1) false=true→0 < l.length∧no.getD (k - 1) 0=l.length - 1
theorem ListOk.skip {t:List (List Int)} {im:List Int} {ss:List StepV} {bs:List Bool} {no:List Nat} {k:Nat} {l:List StepV} (h:ListOk t im ss bs no k l) (hb:bs.getD k false=false):ListOk t im ss bs no (k+1) l where
 len:=h.len
 ok:=h.ok
 le:=by have:=h.le;omega
 nos:=fun i hi hbi=>by
  rcases Nat.lt_succ_iff_lt_or_eq.1 hi with hi|rfl
  ·exact h.nos i hi hbi
  ·rw [hb] at hbi;cases hbi
 wz:=h.wz
 lastn:=fun _ h1=>by rw [Nat.add_sub_cancel,hb] at h1;cases h1
theorem ListOk.push {t:List (List Int)} {im:List Int} {ss:List StepV} {bs:List Bool} {no:List Nat} {k:Nat} {l:List StepV} (h:ListOk t im ss bs no k l) (hk:k < ss.length) (hb:bs.getD k false=true) (hm:MarksOk ss bs 0) (hs:stepB t im ss k=true) (hw:(ss.getD k default).word.size≤maxLen):ListOk t im ss bs (no.set k l.length) (k+1) (l ++ [renum no (ss.getD k default)]):=by
 have hset:∀ s:StepV,(renum no s).set=s.set∧(renum no s).word=s.word∧(renum no s).op=s.op:=fun s=>by
  unfold renum;split <;> (try split) <;> simp
 refine ⟨by rw [List.length_set];exact h.len,fun i hi=>?_,by rw [List.length_append,List.length_singleton];have:=h.le;omega,fun i hi hbi=>?_,fun i hi=>?_,fun _ _=>⟨by simp,?_⟩⟩
 ·rw [List.length_append,List.length_singleton] at hi
  rcases Nat.lt_succ_iff_lt_or_eq.1 hi with hi|rfl
  ·exact step_more hi (h.ok i hi)
  ·obtain ⟨st,est⟩:∃ st,st=ss.getD k default:=⟨_,rfl⟩
   have hop:=hset st
   rw [← est]
   by_cases h1:st.op=1
   ·have hs:=hs
    rw [pD est h1] at hs
    have e:renum no st=st:=by unfold renum;rw [if_pos h1]
    rw [pD (vV l _).symm (by rw [e];exact h1),e];exact hs
   by_cases h2:st.op=2
   ·have hs:=hs
    rw [rL est h2] at hs
    simp only [Bool.and_eq_true,decide_eq_true_eq] at hs
    obtain ⟨⟨⟨s1,s2⟩,s3⟩,s4⟩:=hs
    have e:renum no st={ st with a:=(no.getD st.a.toNat 0:Nat),b:=(no.getD st.b.toNat 0:Nat) }:=by unfold renum;rw [if_neg h1,if_pos h2]
    have ba:=xT.1 s2
    have bb:=xT.1 s3
    have ma:bs.getD st.a.toNat false=true:=by rw [est];exact hm.a k (Nat.zero_le _) hk hb (by rw [← est];exact h1)
    have mb:bs.getD st.b.toNat false=true:=by rw [est];exact hm.b k (Nat.zero_le _) hk hb (by rw [← est];exact h2)
    obtain ⟨na,sa,_⟩:=h.nos _ (by omega) ma
    obtain ⟨nb,sb,_⟩:=h.nos _ (by omega) mb
    rw [rL (vV l _).symm (by rw [e];exact h2),e]
    simp only [Bool.and_eq_true,decide_eq_true_eq,Int.toNat_natCast]
    refine ⟨⟨⟨s1,xT.2 ⟨by omega,by omega⟩⟩,xT.2 ⟨by omega,by omega⟩⟩,?_⟩
    rw [uW l _ na,uW l _ nb,sa,sb];exact s4
   by_cases h3:st.op=3
   ·have hs:=hs
    rw [oY est h3] at hs
    simp only [Bool.and_eq_true,decide_eq_true_eq] at hs
    obtain ⟨⟨⟨s1,s2⟩,s3⟩,s4⟩:=hs
    have e:renum no st={ st with a:=(no.getD st.a.toNat 0:Nat) }:=by unfold renum;rw [if_neg h1,if_neg h2]
    have ba:=xT.1 s2
    have ma:bs.getD st.a.toNat false=true:=by rw [est];exact hm.a k (Nat.zero_le _) hk hb (by rw [← est];exact h1)
    obtain ⟨na,sa,_⟩:=h.nos _ (by omega) ma
    rw [oY (vV l _).symm (by rw [e];exact h3),e]
    simp only [Bool.and_eq_true,decide_eq_true_eq,Int.toNat_natCast]
    refine ⟨⟨⟨s1,xT.2 ⟨by omega,by omega⟩⟩,s3⟩,?_⟩
    rw [uW l _ na,sa];exact s4
   ·rw [lK est h1 h2 h3] at hs;cases hs
 ·have hkn:k < no.length:=by rw [h.len];exact hk
  rw [List.length_append,List.length_singleton]
  rcases Nat.lt_succ_iff_lt_or_eq.1 hi with hi|rfl
  ·obtain ⟨a1,a2,a3⟩:=h.nos i hi hbi
   rw [getD_set_ne _ _ _ _ _ (by omega),uW l _ a1]
   exact ⟨by omega,a2,a3⟩
  ·rw [xO _ _ _ _ hkn,vV]
   exact ⟨by omega,(hset _).1,(hset _).2.1⟩
 ·rw [List.length_append,List.length_singleton] at hi
  rcases Nat.lt_succ_iff_lt_or_eq.1 hi with hi|rfl
  ·rw [uW l _ hi];exact h.wz i hi
  ·rw [vV,(hset _).2.1];exact hw
 ·rw [Nat.add_sub_cancel,xO _ _ _ _ (by rw [h.len];exact hk)];simp
end Go.Proofs.YtdjhoadoiknaoaaDoor
namespace Go.Proofs.YtdjhoadoiknaoaaDoor
open Go.RowKit
def DerF (C dp g go:Nat) (w:World) (k:Nat):Prop:=k=dp∨k=g∨k=go∨(C≤k∧∃ c m,w.heap[k]?=some (.cells c 60 m))
theorem lE {C dp g go:Nat} {w w' w'':World} (h:GrownBut w w' (DerF C dp g go w)) (k:GrownBut w' w'' (DerF C dp g go w')):GrownBut w w'' (DerF C dp g go w) where
 os:=k.os.trans h.os
 tape:=k.tape.trans h.tape
 output:=k.output.trans h.output
 size:=Nat.le_trans h.size k.size
 block:=fun j hj hf=>by
  have h1:=h.block j hj hf
  rw [← h1]
  refine k.block j (Nat.lt_of_lt_of_le hj h.size) fun hk=>hf ?_
  rcases hk with e|e|e|⟨hc,c,m,e⟩
  ·exact .inl e
  ·exact .inr (.inl e)
  ·exact .inr (.inr (.inl e))
  ·rw [h1] at e;exact .inr (.inr (.inr ⟨hc,c,m,e⟩))
theorem derF_of {C dp g go:Nat} {w w':World} {row:Option Nat} (h:w.grownBy w' row) (hr:∀ k,row=some k→DerF C dp g go w k∨w.heap.size≤k):GrownBut w w' (DerF C dp g go w):=(GrownBut.refl w _).step h hr
structure DerAt (C:Nat) (w:World) (dp p g n:Nat) (ss:List StepV) (ix:List Nat):Prop where
 box:∃ sa sc,w.heap[dp]?=some (.cells #[.pointer (some ⟨p,0,none⟩),.slice sa ss.length sc,.slice (some ⟨g,0,none⟩) (2 ^ n) (2 ^ n)] 95 (0,0))∧w.ownsRow C 60 5 (.slice sa ss.length sc) ss.length (yV ss)
 arr:Arr w g 3 (nats ix)
 len:ix.length=2 ^ n
 lo:C≤dp∧C≤g
theorem DerAt.grown {C dp p g n:Nat} {w w':World} {ss:List StepV} {ix:List Nat} {row:Option Nat} (h:DerAt C w dp p g n ss ix) (hg:w.grownBy w' row) (hr:∀ k,row=some k→k < C):DerAt C w' dp p g n ss ix:=by
 obtain ⟨sa,sc,hb,ho⟩:=h.box
 have hk:∀ k,C≤k→row≠some k:=fun k hk e=>by have:=hr k e;omega
 exact ⟨⟨sa,sc,zE hb hg (hk _ h.lo.1),ho.kept hg (by
  rcases hv:(Value.slice sa ss.length sc).ownBlock with _|k
  ·exact .inl rfl
  ·exact .inr (by have:=(ho.lt k hv).1;exact fun e=>hk k this e.symm))⟩,h.arr.kept hg (hk _ h.lo.2),h.len,h.lo⟩
def DAddOk (C:Nat) (w:World) (dp p g n:Nat) (ss:List StepV) (ix:List Nat) (st:StepV) (x:Nat) (e:Ending) (w':World):Prop :=
 e=.returned (.tuple #[])∧DerAt C w' dp p g n (addS ss ix st x).1 (addS ss ix st x).2∧GrownBut w w' (DerF C dp g dp w)
theorem derF_below {C dp g : Nat} {w w' : World} (h : GrownBut w w' (DerF C dp g dp w)) (h1 : C ≤ dp) (h2 : C ≤ g) (h3 : C ≤ w.heap.size) : Below C w w' :=
 ⟨h.os, h.tape, h.output, h.size, fun k hk => h.block k (by omega) (fun hf => by
  rcases hf with e | e | e | ⟨e, _⟩ <;> omega)⟩
theorem GrownBut.weak {w w':World} {F G:Nat→Prop} (h:GrownBut w w' F) (hFG:∀ k,F k→G k):GrownBut w w' G:=⟨h.os,h.tape,h.output,h.size,fun k hk hn=>h.block k hk (fun hf=>hn (hFG k hf))⟩
theorem derF_go {C dp g go:Nat} {w:World} {k:Nat} (h:DerF C dp g dp w k):DerF C dp g go w k:=by
 rcases h with e|e|e|e
 ·exact .inl e
 ·exact .inr (.inl e)
 ·exact .inl e
 ·exact .inr (.inr (.inr e))
theorem vJ {w:World} {p e:Nat} {x0 x1 x2:Value} (h:w.heap[p]?=some (.cells #[x0,x1,x2] e (0,0))):w.cell? ⟨p,0,none⟩=some x0∧w.cell? ⟨p,1,none⟩=some x1∧w.cell? ⟨p,2,none⟩=some x2:=by
 have c0:=zI h 0 (by simp)
 have c1:=zI h 1 (by simp)
 have c2:=zI h 2 (by simp)
 exact ⟨by simpa using c0,by simpa using c1,by simpa using c2⟩
structure DAft (C:Nat) (w W9:World) (dp p g o N:Nat) (ss:List StepV) (ix:List Nat) (st:StepV) (sa8:Option Addr) (sc8:Nat):Prop where
 box:W9.heap[dp]?=some (.cells #[.pointer (some ⟨p,0,none⟩),.slice sa8 (ss.length+1) sc8,.slice (some ⟨g,0,none⟩) N N] 95 (0,0))
 own:W9.ownsRow C 60 5 (.slice sa8 (ss.length+1) sc8) (ss.length+1) (yV (ss ++ [st]))
 arr:Arr W9 g 3 (nats ix)
 st_:W9.heap[o]?=some (.cells #[.int .i64 st.op,.int .i64 st.a,.int .i64 st.b,.string st.word,.int .i64 st.set] 60 (0,0))
 but:GrownBut w W9 (DerF C dp g dp w)
theorem daft {C:Nat} {w wb W W8:World} {dp p g o N:Nat} {ss:List StepV} {ix:List Nat} {st:StepV} {sa sa8:Option Addr} {sc sc8:Nat} (hw:w.grownBy wb none)
  (hb:wb.heap[dp]?=some (.cells #[.pointer (some ⟨p,0,none⟩),.slice sa ss.length sc,.slice (some ⟨g,0,none⟩) N N] 95 (0,0)))
  (ho:w.ownsRow C 60 5 (.slice sa ss.length sc) ss.length (yV ss)) (ha:Arr wb g 3 (nats ix)) (ho1:w.heap.size≤o)
  (hs:wb.heap[o]?=some (.cells #[.int .i64 st.op,.int .i64 st.a,.int .i64 st.b,.string st.word,.int .i64 st.set] 60 (0,0)))
  (h8:W.grownBy W8 (Value.slice sa ss.length sc).ownBlock) (h7:wb.grownBy W none) (hown:W8.ownsRow C 60 5 (.slice sa8 (ss.length+1) sc8) (ss.length+1) (yV ss ++ st.vals)) :
  DAft C w (W8.setCell ⟨dp,1,none⟩ (.slice sa8 (ss.length+1) sc8)) dp p g o N ss ix st sa8 sc8:=by
 have hoW:=yZ (yZ ho hw) h7
 have hbW:=zE hb h7 (by simp)
 have hb8:=zE hbW h8 (zS hoW hbW (by decide))
 have ha7:=ha.kept h7 (by simp)
 have ha8:=ha7.kept h8 (by
  obtain ⟨cur,rest,hh,_⟩:=ha7
  exact zS hoW hh (by decide))
 have hdg:g≠dp:=ha8.type_ne hb8 (by decide)
 have hsl:=zQ hs
 have hno:(Value.slice sa ss.length sc).ownBlock≠some o:=fun e=>by
  have:=(ho.lt o e).2;omega
 have hs8:=zE (zE hs h7 (by simp)) h8 hno
 have hgs:=zH W8 ⟨dp,1,none⟩ (.slice sa8 (ss.length+1) sc8)
 have hod:o≠dp:=by
  rintro rfl
  rw [hs] at hb
  simp at hb
 refine ⟨heap_setCell_same W8 dp 1 _ _ _ hb8,?_,ha8.kept hgs (fun e=>hdg (Oj e).symm),zE hs8 hgs (fun e=>hod (Oj e).symm),?_⟩
 ·rw [rI]
  exact hown.kept hgs (.inr (zS hown hb8 (by decide)))
 ·refine ((((GrownBut.refl w _).step hw (by simp)).step h7 (by simp)).step h8 fun k hk=>?_).step hgs fun k hk=>.inl (.inl (Oj hk).symm)
  rcases ho.2 with ⟨e,_⟩|⟨gg,cap,cur,e,hc,hg,_⟩
  ·simp only [Value.slice.injEq] at e
   obtain ⟨rfl,_,_⟩:=e
   simp [Value.ownBlock] at hk
  ·rw [e] at hk
   have hk:gg=k:=by simpa [Value.ownBlock] using hk
   subst hk
   exact .inl (.inr (.inr (.inr ⟨hc,_,_,hg⟩)))
set_option maxRecDepth 100000 in
set_option maxHeartbeats 1000000 in
theorem lX (C:Nat) (w:World) (dp p g n:Nat) (ss:List StepV) (ix:List Nat) (st:StepV) (x:Nat) (h:DerAt C w dp p g n ss ix) (hle:ss.length≤4096) (hx:x < 2 ^ n) (e:st.set=(x:Int)) (hn:n≤12) (hC:C≤w.heap.size) :
  Calls Tryd.prog 100 #[.pointer (some ⟨dp,0,none⟩),.agg #[.int .i64 st.op,.int .i64 st.a,.int .i64 st.b,.string st.word,.int .i64 st.set]] w (DAddOk C w dp p g n ss ix st x):=by
 obtain ⟨op,sa0,sb0,wd,set0⟩:=st
 have e:set0=(x:Int):=e
 subst e
 have hlo:=h.lo
 have hlen:=h.len
 obtain ⟨sa,sc,hbx,how⟩:=h.box
 have harr:=h.arr
 obtain ⟨N,hN⟩:∃ N,N=2 ^ n:=⟨_,rfl⟩
 have hN4:N≤4096:=by have:=uG hn;omega
 rw [← hN] at hbx hlen hx
 have hdl:=zQ hbx
 have hgl:=harr.lt
 obtain ⟨wb,hwb⟩:∃ W,W=w.alloc (.cells #[.int .i64 op,.int .i64 sa0,.int .i64 sb0,.string wd,.int .i64 (x:Int)] 60):=⟨_,rfl⟩
 have hgb:w.grownBy wb none:=by rw [hwb];exact Ga w _ none
 have hbb:=heap_alloc_new w (.cells #[.int .i64 op,.int .i64 sa0,.int .i64 sb0,.string wd,.int .i64 (x:Int)] 60)
 rw [← hwb] at hbb
 obtain ⟨o,ho⟩:∃ o,o=w.heap.size:=⟨_,rfl⟩
 rw [← ho] at hbb
 have hop:C≤o:=by omega
 have hzb:=hgb.size
 have hbx1:=zE hbx hgb (by simp)
 have harr1:=harr.kept hgb (by simp)
 have how1:=yZ how hgb
 have HWB:=Kh hwb;have HO:=Kh ho;have HN:=Kh hN;have HLEN:=Kh hlen
 have HOW0:=Kh how;have HBX:=Kh hbx1;have HARR:=Kh harr1;have HOW:=Kh how1;have HBB:=Kh hbb;have HGB:=Kh hgb
 have H:=Kh h
 clear hwb ho hN hbx harr how h hgb
 obtain ⟨d0,d1,d2⟩:=vJ hbx1
 obtain ⟨b0,b1,b2,b3,b4⟩:=wG hbb
 have hx':(x:Int) < N:=by omega
 have cx:=harr1.nat x (by rw [hlen];exact hx)
 obtain ⟨X,hX⟩:∃ X,X=ix.getD x 0:=⟨_,rfl⟩
 rw [← hX] at cx
 have HX:=Kh hX
 obtain ⟨z5,by5,hE5,hby5⟩:=elem_step
 have HE5:=Kh hE5
 have HOL:Hid (∀ W:World,wb.grownBy W none→W.ownsRow C 60 5 (.slice sa ss.length sc) ss.length (yV ss)):=Kh (fun W hW=>yZ how1 hW)
 have HB8:Hid (∀ W W8:World,W.grownBy W8 (Value.slice sa ss.length sc).ownBlock→wb.grownBy W none→W8.heap[dp]?=some (.cells #[.pointer (some ⟨p,0,none⟩),.slice sa ss.length sc,.slice (some ⟨g,0,none⟩) N N] 95 (0,0))∧W8.grownBy W8 none):=Kh (fun W W8 h1 h2=>by
  have hb7:=zE HBX.out h2 (by simp)
  exact ⟨zE hb7 h1 (zS (HOL.out _ h2) hb7 (by decide)),zX _ _⟩)
 have hbyn:(ss.length+1) * by5≤4097 * 64:=Nat.mul_le_mul (by omega) hby5
 clear hX hbx1 harr1 how1 hbb hlen hE5 hby5
 go_enter Tryd.func100,Tryd.ntmps100
 go_upto_region 1 with fail
 rw [← HWB.out,← HO.out]
 by_cases hz:X=0
 ·have hzd:((X:Int) == 0)=true:=by rw [hz];rfl
  have HZ:Hid (ix.getD x 0=0):=Kh (by rw [← HX.out];exact hz)
  clear hz
  go_quiet (fail)
  go_wp2
  have d1q:=(vJ (zE HBX.out (xG (zJ wb (nq+1) none) (.cells #[.int .i64 op,.int .i64 sa0,.int .i64 sb0,.string wd,.int .i64 (x:Int)] 60)) (by simp))).2.1
  go_region_law (first|(refine step_app5 rfl (.tmp 17) (.tmp 19) 56 rfl HE5.out C _ ss.length (yV ss) rfl (HOL.out _ (xG (zJ wb _ none) _)) ⟨op,sa0,sb0,wd,(x:Int)⟩ wb.heap.size rfl (0,0) (heap_alloc_new (wb.drewN _) _) ?g1 ?g2 ?g3 ?_;(case g1=>(unfold maxLen;omega));(case g2=>omega);(case g3=>(simp;omega));intro sa8 sc8 w8 hown8 hg8;have hbx8:=(HB8.out _ _ hg8 (xG (zJ wb _ none) _)).1;have d81:=(vJ hbx8).2.1;have f81:=zD hbx8 1)|fail)
  all_goals
   have hA:=daft (ss:=ss) (st:=⟨op,sa0,sb0,wd,(x:Int)⟩) HGB.out HBX.out HOW0.out HARR.out (Nat.le_of_eq HO.out.symm) HBB.out hg8 (xG (zJ wb _ none) _) hown8
   obtain ⟨w9,hw9⟩:∃ w9,w9=w8.setCell ⟨dp,1,none⟩ (.slice sa8 (ss.length+1) sc8):=⟨_,rfl⟩
   rw [← hw9] at hA ⊢
   have HA:=Kh hA
   have hcs:=vJ hA.box
   have p1:=hcs.2.1;have p2:=hcs.2.2
   have pc:=(wG hA.st_).2.2.2.2
   have pg:=hA.arr.nat x (by rw [HLEN.out];exact hx)
   have pf:=hA.arr.frozen x
   clear hA hw9 hown8 hg8 hcs d1q d0 d1 d2 b0 b1 b2 b3 b4 cx hbx8 d81 f81
   go_upto_region 3 with fail
   go_still_tail 12,(by kernel_rfl)
   all_goals
    go_wp2
    go_end0
    have hc1:((ss.length+1:Nat):Int)=(ss.length:Int)+1:=by omega
    have hgs:w9.grownBy (w9.setCell ⟨g,x,none⟩ (.int .i64 ((ss.length:Int)+1))).drew (some g):=zG (zH w9 ⟨g,x,none⟩ (.int .i64 ((ss.length:Int)+1))) (zU _ _)
    have hset:=HA.out.arr.nat_set x (by rw [HLEN.out];exact hx) (ss.length+1)
    rw [hc1] at hset
    replace hset:=hset.kept (zU _ none) (by simp)
    have hgd:=HA.out.arr.type_ne HA.out.box (by decide)
    refine ⟨rfl,?_,HA.out.but.step hgs fun k hk=>.inl (.inr (.inl (Oj hk).symm))⟩
    rw [nV HZ.out]
    refine ⟨⟨sa8,sc8,?_,?_⟩,hset,by rw [List.length_set,HLEN.out,HN.out],hlo⟩
    ·rw [List.length_append,List.length_singleton,← HN.out]
     exact zE HA.out.box hgs (fun e=>hgd (Oj e))
    ·rw [List.length_append,List.length_singleton]
     refine HA.out.own.kept hgs (.inr ?_)
     obtain ⟨cur,rest,hh,_⟩:=HA.out.arr
     exact zS HA.out.own hh (by decide)
 ·have hzd:((X:Int) == 0)=false:=by rw [beq_eq_false_iff_ne];omega
  have HZ:Hid (ix.getD x 0≠0):=Kh (by rw [← HX.out];exact hz)
  clear hz
  go_quiet (fail)
  go_wp2
  go_end0
  refine ⟨rfl,?_,(derF_of HGB.out (by simp)).step (zJ wb _ none) (by simp)⟩
  rw [nT HZ.out]
  exact (H.out.grown HGB.out (by simp)).grown (zJ wb _ none) (by simp)
end Go.Proofs.YtdjhoadoiknaoaaDoor
