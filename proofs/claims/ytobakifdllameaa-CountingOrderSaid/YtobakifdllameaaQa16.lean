/- Part 16 of the proof. -/
import Derived.Test.YtobakifdllameaaQa15
import Derived.Deep.RegionLaw
import Derived.Deep.DeepCutAuto
import Derived.Deep.CutBlock
import Derived.DeepKeys4
set_option linter.unusedVariables false
set_option linter.unusedSimpArgs false
set_option maxRecDepth 100000
set_option maxHeartbeats 16000000
namespace Go.Proofs.Ytobakifdllameaa
open Go.Maps Go.RowKit
theorem sZ.obj {w:World}{b n:Nat}{l:List Int}(h:sZ w b n l):∃es clock,w.heap[b]?=some (.map es clock):=by
 obtain⟨D,⟨es,clock,hb,_⟩,_⟩:=h;exact⟨es,clock,hb⟩
theorem NumSt.off {base:Nat}{W:World}{o:Nat}{sa:Option Addr}{sc:Nat}{mv:Option Nat}{l:List Nat}(h:NumSt base W o sa sc mv l){k e:Nat}{c:Array Value}{m:Nat×Nat}(hk:W.heap[k]?=some (.cells c e m))(h1:e≠3)(h2:e≠141):¬NF o sa mv k:=by
 rintro (rfl|hn|hn)
 ·rw[h.box]at hk
  simp only[Option.some.injEq,Obj.cells.injEq]at hk;exact h2 hk.2.1.symm
 ·rw[<-yG sa l.length sc]at hn
  exact zS h.own hk (fun e=>h1 e.symm) hn
 rcases h.map with ⟨e,_⟩|⟨mb,e,_,_,_,_,hm⟩
 ·rw[e]at hn;cases hn
 rw[e]at hn;have:=Oj hn;subst this;obtain⟨es,cl,hm⟩:=hm.obj;rw[hm]at hk;simp at hk
theorem NumSt.offOwn {base:Nat}{W:World}{o:Nat}{sa:Option Addr}{sc:Nat}{mv:Option Nat}{l:List Nat}(h:NumSt base W o sa sc mv l){b e n sz:Nat}{v:Value}{xs:List Value}(a9:W.ownsRow b e sz v n xs)(h1:e≠3)(h2:e≠141):∀k,v.ownBlock=some k->¬NF o sa mv k:=fun k hk=>by
 rcases a9.2 with ⟨rfl,_⟩|⟨g,cap,cur,rfl,_,hg,_⟩
 ·simp[Value.ownBlock]at hk
 ·have:g=k:=by simpa [Value.ownBlock] using hk
  subst this
  exact h.off hg h1 h2
theorem xO.keptT {α:Type}{X:Nat->Prop}{e:TypeId}{f:α->List Value}{w w':World}{hs:List Value}{ts:List α}{row:Option Nat}(h:xO X e f w hs ts)(hg:w.grownBy w' row)(hr:∀k,row=some k->xI w e k):xO X e f w' hs ts :=
 ⟨h.1,fun i h1 h2=>⟨((h.2 i h1 h2).1.kept hg (fun k hk=>.inr (hr k hk))).mono hg.size,(h.2 i h1 h2).2⟩⟩
theorem xQ.but {X F:Nat->Prop}{w w':World}(a9:∀k,X k->k<w.heap.size)(hg:GrownBut w w' F)(hF:∀k,F k->¬X k):xQ X w w':=fun k hk=>hg.block k (a9 k hk) (fun hf=>hF k hf hk)
theorem iT {w w':World}{base e n sz:Nat}{v:Value}{xs:List Value}{F:Nat->Prop}(h:w.ownsRow base e sz v n xs)(hg:GrownBut w w' F)(hF:∀k,v.ownBlock=some k->¬F k):w'.ownsRow base e sz v n xs:=by
 refine⟨h.1,?_⟩;rcases id h.2 with h2|⟨g,cap,cur,hv,hb,hgc,h3⟩
 ·exact .inl h2
 exact .inr ⟨g,cap,cur,hv,hb,hg.heap hgc (hF g (by rw[hv];rfl)),h3⟩
structure ExSt (B:Nat)(W0 W:World)(oN o2:Nat)(X Y:Nat->Prop)(k:Nat)(l:List Nat)(fs:List Bool)(t:List (List Int))(hs:List Value)(sa:Option Addr)(sc:Nat)(mv:Option Nat)(sf:Option Addr)(cf:Nat)(sn:Option Addr)(cn:Nat):Prop where
 num:NumSt B W oN sa sc mv l
 sep:∀j,NF oN sa mv j->¬Y j
 XY:∀j,X j->Y j
 lt:∀j,Y j->j<W.heap.size
 box:W.heap[o2]?=some (.cells #[.int .i64 (k:Int),.int .i64 0,.slice sf fs.length cf,.slice sn t.length cn] 37 (0,0))
 ownF:W.ownsRow o2 4 1 (.slice sf fs.length cf) fs.length (bls fs)
 ownN:W.ownsRow o2 22 1 (.slice sn t.length cn) t.length hs
 rows:xO X 3 ints W hs t
 lo:W0.heap.size<=o2
 loB:W0.heap.size<=B/\B<=W.heap.size
 grown:W0.grownBy W none
section
variable {B:Nat} {W0 W W':World} {oN o2 k:Nat} {X Y:Nat->Prop} {l:List Nat} {fs:List Bool} {t:List (List Int)} {hs:List Value} {sa:Option Addr} {sc:Nat} {mv:Option Nat} {sf:Option Addr} {cf:Nat} {sn:Option Addr} {cn:Nat}
theorem ExSt.grow (h:ExSt B W0 W oN o2 X Y k l fs t hs sa sc mv sf cf sn cn)(hg:W.grownBy W' none):ExSt B W0 W' oN o2 X Y k l fs t hs sa sc mv sf cf sn cn where
 num:=h.num.kept hg (by simp)
 sep:=h.sep
 XY:=h.XY
 lt:=fun j hj=>Nat.lt_of_lt_of_le (h.lt j hj) hg.size
 box:=zB h.box hg
 ownF:=zX h.ownF hg
 ownN:=zX h.ownN hg
 rows:=h.rows.keptT hg (by simp)
 lo:=h.lo
 loB:=⟨h.loB.1,Nat.le_trans h.loB.2 hg.size⟩
 grown:=zC h.grown hg
theorem ExSt.fresh (h:ExSt B W0 W oN o2 X Y k l fs t hs sa sc mv sf cf sn cn)(hg:W.grownBy W' none){g:Nat}(h1:W.heap.size<=g)(h2:g<W'.heap.size):ExSt B W0 W' oN o2 X (fun j=>Y j\/j=g) k l fs t hs sa sc mv sf cf sn cn where
 num:=h.num.kept hg (by simp)
 sep:=fun j hj hy=>by
  rcases hy with hy|hy
  ·exact h.sep j hj hy
  ·have:=(h.num.ge j hj).2;omega
 XY:=fun j hj=>.inl (h.XY j hj)
 lt:=fun j hj=>by
  rcases hj with hj|hj
  ·exact Nat.lt_of_lt_of_le (h.lt j hj) hg.size
  ·omega
 box:=zB h.box hg
 ownF:=zX h.ownF hg
 ownN:=zX h.ownN hg
 rows:=h.rows.keptT hg (by simp)
 lo:=h.lo
 loB:=⟨h.loB.1,Nat.le_trans h.loB.2 hg.size⟩
 grown:=zC h.grown hg
theorem ExSt.num_step (h:ExSt B W0 W oN o2 X Y k l fs t hs sa sc mv sf cf sn cn){l':List Nat}{a9:Option Addr}{a7:Nat}{a8:Option Nat}(hn:NumSt B W' oN a9 a7 a8 l')(hg:GrownBut W W' (NF oN sa mv))(hm:∀k,NF oN a9 a8 k->NF oN sa mv k\/W.heap.size<=k):ExSt B W0 W' oN o2 X Y k l' fs t hs a9 a7 a8 sf cf sn cn where
 num:=hn
 sep:=fun j hj hy=>by
  rcases hm j hj with h1|h1
  ·exact h.sep j h1 hy
  ·have:=h.lt j hy;omega
 XY:=h.XY
 lt:=fun j hj=>Nat.lt_of_lt_of_le (h.lt j hj) hg.size
 box:=hg.heap h.box (h.num.off h.box (by decide) (by decide))
 ownF:=iT h.ownF hg (h.num.offOwn h.ownF (by decide) (by decide))
 ownN:=iT h.ownN hg (h.num.offOwn h.ownN (by decide) (by decide))
 rows:=h.rows.kept (xQ.but (fun k hk=>h.lt k (h.XY k hk)) hg (fun k hf hx=>h.sep k hf (h.XY k hx))) hg.size
 lo:=h.lo
 loB:=⟨h.loB.1,Nat.le_trans h.loB.2 hg.size⟩
 grown:=hg.grown h.grown (fun k hk=>.inr (Nat.le_trans h.loB.1 (h.num.ge k hk).1))
theorem ExSt.put (h:ExSt B W0 W oN o2 X Y k l fs t hs sa sc mv sf cf sn cn){g:Nat}{c:Array Value}{m:Nat×Nat}(hg:W.grownBy W' (some g))(hc:W.heap[g]?=some (.cells c 3 m))(hY:Y g)(hX:¬X g)(h0:W0.heap.size<=g):ExSt B W0 W' oN o2 X Y k l fs t hs sa sc mv sf cf sn cn where
 num:=h.num.kept hg (fun j e hf=>by have:=Oj e;subst this;exact h.sep _ hf hY)
 sep:=h.sep
 XY:=h.XY
 lt:=fun j hj=>Nat.lt_of_lt_of_le (h.lt j hj) hg.size
 box:=zB h.box hg (fun e=>by
  have:=Oj e
  subst this
  rw[h.box]at hc
  simp only[Option.some.injEq,Obj.cells.injEq]at hc
  exact absurd hc.2.1 (by decide))
 ownF:=h.ownF.kept hg (.inr (zS h.ownF hc (by decide)))
 ownN:=h.ownN.kept hg (.inr (zS h.ownN hc (by decide)))
 rows:=h.rows.kept (fun j hj=>hg.block j (h.lt j (h.XY j hj)) (fun e=>by have:=Oj e;subst this;exact hX hj)) hg.size
 lo:=h.lo
 loB:=⟨h.loB.1,Nat.le_trans h.loB.2 hg.size⟩
 grown:=zC h.grown hg (fun j e=>by have:=Oj e;omega)
theorem ExSt.pushN (h:ExSt B W0 W oN o2 X Y k l fs t hs sa sc mv sf cf sn cn){m:Nat}(hm:t.length=m){rv:Value}{row:List Int}{a9:Option Addr}{a8:Nat}(ho:W'.ownsRow o2 22 1 (.slice a9 (m+1) a8) (m+1) (hs++[rv]))(hg:W.grownBy W' (Value.slice sn m cn).ownBlock)(a7:RowX (fun j=>X j\/Y j) 3 W rv (ints row)){W2:World}(a6:W2=W'.setCell ⟨o2,3,none⟩ (.slice a9 (m+1) a8)):ExSt B W0 W2 oN o2 Y Y k l fs (t++[row]) (hs++[rv]) sa sc mv sf cf a9 a8:=by
 subst hm;have hb:=zB h.box hg (zS h.ownN h.box (by decide));have h1:=heap_setCell_same W' o2 3 _ _ (.slice a9 (t.length+1) a8) hb;have g2:=zG W' ⟨o2,3,none⟩ (.slice a9 (t.length+1) a8);rw[<-a6]at h1 g2;have h0:=h.num.offOwn h.ownN (by decide) (by decide);have h2:=h.num.kept hg (fun j e=>h0 j e)
 have h3:=h.ownF.kept hg (by
  rcases hv:(Value.slice sf fs.length cf).ownBlock with _|j
  ·exact .inl rfl
  refine .inr fun e=>?_;obtain⟨cu,e',mm,hh,h7⟩:=wW (e':=22) h.ownF (by decide) j hv
  exact zS h.ownN hh (fun e2=>h7 e2.symm) e.symm)
 have h5:xO Y 3 ints W (hs++[rv]) (t++[row]):=(h.rows.mono h.XY).snoc (a7.mono (fun j hj=>hj.elim (h.XY j) id));have h4:=h5.keptT hg (fun j e=>wW h.ownN (by decide) j e);have h6:xI W' 3 o2:=⟨_,_,_,hb,by decide⟩;have hz:=hg.size;have h8:=g2.size
 exact⟨h2.kept g2 (fun j e hf=>by have:=Oj e;subst this;exact h2.off hb (by decide) (by decide) hf),h.sep,fun _ hj=>hj,fun j hj=>by have:=h.lt j hj;omega,by rw[h1];simp,h3.kept g2 (.inr (zS h3 hb (by decide))),by
  rw[List.length_append]
  exact ho.kept g2 (.inr (zS ho hb (by decide))),h4.keptT g2 (fun j e=>by have:=Oj e;subst this;exact h6),h.lo,⟨h.loB.1,by have:=h.loB.2;omega⟩,yN (zC h.grown hg (fun j e=>Nat.le_trans h.lo (h.ownN.lt j e).1)) g2 (by show _<=o2;have:=h.lo;omega)⟩
theorem ExSt.pushF (h:ExSt B W0 W oN o2 X Y k l fs t hs sa sc mv sf cf sn cn){m:Nat}(hm:fs.length=m){b:Bool}{a9:Option Addr}{a8:Nat}(ho:W'.ownsRow o2 4 1 (.slice a9 (m+1) a8) (m+1) (bls fs++[.bool b]))(hg:W.grownBy W' (Value.slice sf m cf).ownBlock){W2:World}(a7:W2=W'.setCell ⟨o2,2,none⟩ (.slice a9 (m+1) a8)):ExSt B W0 W2 oN o2 X Y k l (fs++[b]) t hs sa sc mv a9 a8 sn cn:=by
 subst hm;have hb:=zB h.box hg (zS h.ownF h.box (by decide));have h1:=heap_setCell_same W' o2 2 _ _ (.slice a9 (fs.length+1) a8) hb;have g2:=zG W' ⟨o2,2,none⟩ (.slice a9 (fs.length+1) a8);rw[<-a7]at h1 g2;have h0:=h.num.offOwn h.ownF (by decide) (by decide);have h2:=h.num.kept hg (fun j e=>h0 j e)
 have h3:=h.ownN.kept hg (by
  rcases hv:(Value.slice sn t.length cn).ownBlock with _|j
  ·exact .inl rfl
  refine .inr fun e=>?_;obtain⟨cu,e',mm,hh,h6⟩:=wW (e':=4) h.ownN (by decide) j hv
  exact zS h.ownF hh (fun e2=>h6 e2.symm) e.symm)
 have h4:=h.rows.keptT hg (fun j e=>wW h.ownF (by decide) j e);have h5:xI W' 3 o2:=⟨_,_,_,hb,by decide⟩;have hz:=hg.size;have h8:=g2.size;have h7:bls (fs++[b])=bls fs++[.bool b]:=by simp[bls]
 exact⟨h2.kept g2 (fun j e hf=>by have:=Oj e;subst this;exact h2.off hb (by decide) (by decide) hf),h.sep,h.XY,fun j hj=>by have:=h.lt j hj;omega,by rw[h1];simp,by
  rw[List.length_append,h7]
  exact ho.kept g2 (.inr (zS ho hb (by decide))),h3.kept g2 (.inr (zS h3 hb (by decide))),h4.keptT g2 (fun j e=>by have:=Oj e;subst this;exact h5),h.lo,⟨h.loB.1,by have:=h.loB.2;omega⟩,yN (zC h.grown hg (fun j e=>Nat.le_trans h.lo (h.ownF.lt j e).1)) g2 (by show _<=o2;have:=h.lo;omega)⟩
end
end Go.Proofs.Ytobakifdllameaa
namespace Go.Proofs.Ytobakifdllameaa
def nN (d:DfaV)(k q x:Nat):List Nat:=(List.range x).map (fun a=>(yH d k).idxOf (nx d q a))++List.replicate (k-x) 0
theorem nM {d:DfaV}{k q x:Nat}(h:x<=k):(nN d k q x).length=k:=by simp[nN];omega
theorem qHU {d:DfaV}{k q x:Nat}(h:x<k):(nN d k q x).set x ((yH d k).idxOf (nx d q x))=nN d k q (x+1):=by
 unfold nN;rw[List.set_append_right _ _ (by simp),List.range_succ,List.map_append,show k-x=(k-(x+1))+1 by omega,List.replicate_succ];simp
theorem qEF (d:DfaV)(k q:Nat):nN d k q 0=List.replicate k 0:=by simp[nN]
theorem qEG {d:DfaV}{n k q:Nat}(hd:VD d n k)(hA:∀a,a<k->nx d q a∈yH d k)(hq:q<n):zl (nN d k q k)=wO (yH d k) (d.next.getD q []):=by
 have hr:=hd.row q hq;refine List.ext_getElem (by rw[qLQ,nM (Nat.le_refl k),wO,List.length_map,hr]) fun a h1 h2=>?_;have ha:a<k:=by simpa [zl,nN] using h1
 have e2:(wO (yH d k) (d.next.getD q []))[a]=rP (yH d k) ((d.next.getD q [])[a]'(by rw[hr];exact ha)).toNat:=by simp[wO]
 rw[e2]
 have e3:((d.next.getD q [])[a]'(by rw[hr];exact ha)).toNat=nx d q a:=by
  show _=(ent d.next q a).toNat;unfold ent;rw[zN (show a<(d.next.getD q []).length by rw[hr];exact ha)]
 rw[e3,rP,if_pos (hA a ha)];simp[zl,nN]
structure ExL (d:DfaV)(n k i:Nat)(l:List Nat):Prop where
 acc:AccI d n k i l
 go:rQ d k (n-i) i l=yH d k
theorem ExL.start {d:DfaV}{n k:Nat}(hd:VD d n k):ExL d n k 0 [st0 d]:=⟨AccI.start hd,by rw[yH,hd.hn];rfl⟩
theorem ExL.le {d:DfaV}{n k i:Nat}{l:List Nat}(h:ExL d n k i l):l.length<=n:=rS h.acc.nd h.acc.lt
theorem ExL.next {d:DfaV}{n k i:Nat}{l:List Nat}(hd:VD d n k)(h:ExL d n k i l)(hi:i<l.length):ExL d n k (i+1) (wV d l i k):=by
 refine⟨h.acc.row hd hi,?_⟩;have:=h.le;have e:n-i=(n-(i+1))+1:=by omega
 have g:=h.go;rw[e,rQ,if_pos hi]at g;exact g
theorem ExL.done {d:DfaV}{n k i:Nat}{l:List Nat}(h:ExL d n k i l)(hi:¬i<l.length):l=yH d k:=by
 have g:=h.go;rw[gT hi]at g;exact g
theorem jH (d:DfaV)(k:Nat):∀f i l,l <+: rQ d k f i l
 | 0,_,l=>List.prefix_refl l
 | f+1,i,l=>by
  rw[rQ]
  split
  ·exact(tF d l i k).trans (jH d k f (i+1) _)
  ·exact List.prefix_refl l
theorem lD (d:DfaV)(l:List Nat)(i:Nat):∀ {a b},a<=b->wV d l i a <+: wV d l i b
 | a,0,h=>by rw[show a=0 by omega];exact List.prefix_refl _
 | a,b+1,h=>by
  by_cases e:a=b+1
  ·rw[e];exact List.prefix_refl _
  ·exact(lD d l i (by omega)).trans (oB _ _)
theorem ExL.pre {d:DfaV}{n k i:Nat}{l:List Nat}(hd:VD d n k)(h:ExL d n k i l)(hi:i<l.length){x:Nat}(hx:x<=k):wV d l i x <+: yH d k:=by
 have h2:=(h.next hd hi).go;exact(lD d l i hx).trans (h2 ▸ jH d k _ _ _)
theorem ExL.idx {d:DfaV}{n k i:Nat}{l:List Nat}(hd:VD d n k)(h:ExL d n k i l)(hi:i<l.length){x:Nat}(hx:x<k):(wV d l i (x+1)).idxOf (nx d (l.getD i 0) x)=(yH d k).idxOf (nx d (l.getD i 0) x) :=
 (jE (h.pre hd hi (show x+1<=k by omega)) (tV.2 (.inr ⟨x,by omega,rfl⟩))).symm
theorem ExL.done_mem {d:DfaV}{n k i:Nat}{l:List Nat}(hd:VD d n k)(h:ExL d n k i l)(hi:i<l.length){a:Nat}(ha:a<k):nx d (l.getD i 0) a∈yH d k :=
 (h.pre hd hi (show a+1<=k by omega)).subset (tV.2 (.inr ⟨a,by omega,rfl⟩))
theorem ExL.rowLen {d:DfaV}{n k i:Nat}{l:List Nat}(hd:VD d n k)(h:ExL d n k i l)(hi:i<l.length){x:Nat}(hx:x<=k):(wV d l i x).length<=n:=by
 have h1:=(lD d l i hx).length_le;have h2:=(h.next hd hi).le;omega
theorem oS {l m:List Nat}(h:l <+: m){i:Nat}(hi:i<=l.length):m.take i=l.take i:=by
 obtain⟨r,rfl⟩:=h;rw[List.take_append_of_le_length hi]
open Go.Maps Go.RowKit
def exT (d:DfaV)(k:Nat)(l:List Nat)(i:Nat):List (List Int):=(l.take i).map fun q=>wO (yH d k) (d.next.getD q [])
def exF (d:DfaV)(l:List Nat)(i:Nat):List Bool:=(l.take i).map fun q=>d.final.getD q false
theorem qBK {d:DfaV}{k:Nat}{l:List Nat}{i:Nat}(h:i<=l.length):(exT d k l i).length=i:=by simp[exT];omega
theorem qHV {d:DfaV}{l:List Nat}{i:Nat}(h:i<=l.length):(exF d l i).length=i:=by simp[exF];omega
theorem qKO {d:DfaV}{k:Nat}{l m:List Nat}{i:Nat}(hp:l <+: m)(h:i<l.length):exT d k m (i+1)=exT d k l i++[wO (yH d k) (d.next.getD (l.getD i 0) [])]:=by
 simp only[exT,oS hp (show i+1<=l.length by omega),yF (d:=0) h,List.map_append,List.map_cons,List.map_nil]
theorem qKP {d:DfaV}{l m:List Nat}{i:Nat}(hp:l <+: m)(h:i<l.length):exF d m (i+1)=exF d l i++[d.final.getD (l.getD i 0) false]:=by
 simp only[exF,oS hp (show i+1<=l.length by omega),yF (d:=0) h,List.map_append,List.map_cons,List.map_nil]
theorem RowX.of_arr {X:Nat->Prop}{w:World}{g n:Nat}{e:TypeId}{xs:List Value}(h:Arr w g e xs)(hn:xs.length=n)(hm:n<=maxLen)(hX:X g):RowX X e w (.slice (some ⟨g,0,none⟩) n n) xs:=by
 obtain⟨cur,rest,hc,ht⟩:=h;subst hn;refine⟨.inr ⟨g,0,xs.length,cur,(0,0),rfl,zR hc,Nat.le_refl _,hm,hc,fun i hi=>?_⟩,fun k hk=>?_⟩
 ·rw[Nat.zero_add,<-Array.getElem?_toList,ht,List.getElem?_append_left hi,List.getElem?_eq_getElem hi]
 have:g=k:=by simpa [Value.ownBlock] using hk
 subst this;exact hX
theorem Arr.but {w w':World}{g:Nat}{e:TypeId}{xs:List Value}{F:Nat->Prop}(h:Arr w g e xs)(hg:GrownBut w w' F)(hF:¬F g):Arr w' g e xs:=by
 obtain⟨cur,rest,hc,ht⟩:=h;exact⟨cur,rest,hg.heap hc hF,ht⟩
theorem qA {w W:World}{o:Obj}(h1:W.os=w.os)(h2:W.tape=w.tape)(h3:W.output=w.output)(h4:W.heap=(w.alloc o).heap):w.grownBy W none :=
 wT (Ga w o none) h1 h2 h3 h4
structure TBox (B:Nat)(W:World)(P:Nat)(d:DfaV)(n k S fb fo fc b off cap:Nat)(RB RO RC:Nat->Nat):Prop where
 box:W.heap[P]?=some (.cells #[.int .i64 (k:Int),.int .i64 (S:Int),.slice (some ⟨fb,fo,none⟩) n fc,.slice (some ⟨b,off,none⟩) n cap] 37 (0,0))
 at_:DAt B W d n k fb fo fc b off cap RB RO RC
theorem TBox.grow {B:Nat}{W W':World}{P:Nat}{d:DfaV}{n k S fb fo fc b off cap:Nat}{RB RO RC:Nat->Nat}(h:TBox B W P d n k S fb fo fc b off cap RB RO RC)(hg:W.grownBy W' none):TBox B W' P d n k S fb fo fc b off cap RB RO RC :=
 ⟨zB h.box hg,h.at_.kept hg (by simp)⟩
section
variable {B:Nat} {W:World} {P:Nat} {d:DfaV} {n k S fb fo fc b off cap:Nat} {RB RO RC:Nat->Nat}
theorem qFE (h:TBox B W P d n k S fb fo fc b off cap RB RO RC){q a:Nat}(hq:q<n)(ha:a<k):Calls Try.prog 88 #[.int .i64 (q:Int),.int .i64 (a:Int),.pointer (some ⟨P,0,none⟩)] W fun e w'=>e=.returned (.int .i64 ((nx d q a:Nat):Int))/\W=w':=by
 obtain⟨c0,c1,c2,c3⟩:=zP h.box;have c4:=h.at_.hd q hq;have c5:=h.at_.el q a hq ha;have hc:=h.at_.cap;have hr:=h.at_.rcap q hq;have hd:=h.at_.ok;have hn:=hd.nbig;have hk:=hd.k6;unfold maxLen at hc hr;clear h hd;go_enter Try.func88,Try.ntmps88;go_wp2;go_ret;exact⟨rfl,rfl⟩
theorem qFD (h:TBox B W P d n k S fb fo fc b off cap RB RO RC){q:Nat}(hq:q<n):Calls Try.prog 89 #[.int .i64 (q:Int),.pointer (some ⟨P,0,none⟩)] W fun e w'=>e=.returned (.bool (d.final.getD q false))/\W=w':=by
 obtain⟨c0,c1,c2,c3⟩:=zP h.box;have c4:=h.at_.fin hq;have hc:=h.at_.fcap;have hd:=h.at_.ok;have hn:=hd.nbig;unfold maxLen at hc;clear h hd;go_enter Try.func89,Try.ntmps89;go_wp2;go_ret;exact⟨rfl,rfl⟩
end
def qOV (W:World)(d:DfaV)(k:Nat)(e:Ending)(W':World):Prop :=
 ∃v sa sc,e=.returned (.tuple #[v,.slice sa (yH d k).length sc,.int .i64 0])/\tJ W W' v (wG d k)/\W'.ownsRow W.heap.size 3 1 (.slice sa (yH d k).length sc) (yH d k).length (nats (yH d k))/\W.grownBy W' none
theorem qBJ (B:Nat)(W:World)(P:Nat)(d:DfaV)(n k S fb fo fc b off cap:Nat)(RB RO RC:Nat->Nat)(hS:S=st0 d)(h5:n<=512)(h:TBox B W P d n k S fb fo fc b off cap RB RO RC):Calls Try.prog 87 #[.int .i64 (k:Int),.int .i64 (S:Int),.func (.func 88) #[] #[.pointer (some ⟨P,0,none⟩)],.func (.func 89) #[] #[.pointer (some ⟨P,0,none⟩)]] W (qOV W d k):=by
 have hd:=h.at_.ok;have hn:=hd.nbig;have hk:=hd.k6;have q9:=hd.k1;have r4:S<n:=by rw[hS];exact lJ hd
 obtain⟨w1,a5⟩:=Nm ((W.alloc (.cells #[.int .i64 0,.int .i64 0,.slice none 0 0,.slice none 0 0] 37)).alloc (.cells #[.slice none 0 0,.map none] 141));have l2:W.grownBy w1 none:=by rw[a5];exact mY (Ga W _ none) _
 have H3:w1.heap[W.heap.size]?=some (.cells #[.int .i64 0,.int .i64 0,.slice none 0 0,.slice none 0 0] 37 (0,0)):=by rw[a5];exact qEC W _ _
 have i6:w1.heap[W.heap.size+1]?=some (.cells #[.slice none 0 0,.map none] 141 (0,0)):=by rw[a5];exact qDY W _ _
 have q3:w1.heap.size=W.heap.size+2:=by rw[a5,zW,zW]
 obtain⟨oN,e7⟩:=Nm (W.heap.size+1);obtain⟨o0,e9⟩:=Nm W.heap.size;rw[<-e9]at H3;rw[<-e7]at i6;have j2:Hid (NumSt W.heap.size w1 oN none 0 none []):=Kh ⟨i6,World.ownsRow_nil _ _ _ _,.inl ⟨rfl,rfl⟩,by omega⟩;obtain⟨h2,p4,m2,HD,HT,HS⟩:=K6 H3 l2 a5 hd h hS;have p1:=Kh e9;have p2:=Kh e7;have n7:W.heap.size<oN:=by omega
 have n6:oN<w1.heap.size:=by omega
 have o1:W.heap.size<=o0:=by omega
 have n9:o0<oN:=by omega
 clear e7 e9;clear H3 i6 l2 a5 hd h hS;go_enter Try.func87,Try.ntmps87;go_upto_region 2 with fail;rw[<-m2.out,<-p2.out,<-p1.out];go_wp2_with fail;refine(aI W.heap.size w1 oN none 0 none [] S j2.out (by omega) (by simp) (by omega)).mono ?_;rintro e w2 ⟨sa2,sc2,mv2,rfl,H1,H2,f5⟩;have a6:xY ([]:List Nat) S=[S]:=by simp[xY]
 rw[a6]at H1;have q2:=H2.size;have c2:=Kh H1;have a4:=Kh H2;obtain⟨o2,e8⟩:=Nm w2.heap.size;clear a6 H1 H2 f5;go_wp2_with fail;obtain⟨w3,d7⟩:=Nm (w2.alloc (.cells #[.int .i64 (k:Int),.int .i64 0,.slice none 0 0,.slice none 0 0] 37));have a7:=Ga w2 (.cells #[.int .i64 (k:Int),.int .i64 0,.slice none 0 0,.slice none 0 0] 37) none;have b5:=heap_alloc_new w2 (.cells #[.int .i64 (k:Int),.int .i64 0,.slice none 0 0,.slice none 0 0] 37);rw[<-d7]at a7 b5;rw[<-e8]at b5;have q1:=a7.size;have b0:W.heap.size<=o2:=by omega
 have n8:=zR b5;have m8:=Kh (zC (a4.out.grown p4.out (fun k hk=>.inr (j2.out.ge k hk).1)) a7);have h0:Hid (ExSt W.heap.size W w3 oN o2 (fun _=>False) (fun _=>False) k [S] (exF d [S] 0) (exT d k [S] 0) [] sa2 sc2 mv2 none 0 none 0):=Kh ⟨c2.out.kept a7 (by simp),fun _ _ h=>h,fun _ h=>h,fun _ h=>h.elim,b5,World.ownsRow_nil _ _ _ _,World.ownsRow_nil _ _ _ _,xO.nil,b0,⟨Nat.le_refl _,by omega⟩,m8.out⟩
 have p3:=Kh e8;have m1:=Kh d7;have c4:=Kh (zB (a4.out.heap h2.out (fun h=>by
  rcases h with h|h|h
  ·omega
  ·simp[Value.ownBlock]at h
  simp at h)) a7)
 have H9:o0≠o2:=by omega
 have k5:o0<w3.heap.size:=by omega
 clear a7 b5 d7 e8;rw[<-p3.out,<-m1.out]
 go_loopg [13,14,15,16] n (fun gh i a14 a15 a16 wr=>∃(q:Nat) (l:List Nat) (hs:List Value) (X:Nat->Prop) (sa:Option Addr) (sc:Nat) (mv:Option Nat) (sf:Option Addr) (cf:Nat) (sn:Option Addr) (cn:Nat),gh+q=n/\i=.int .i64 q/\q<=l.length/\ExL d n k q l/\wr.heap[o0]?=some (.cells #[.int .i64 0,.int .i64 0,.slice none 0 0,.slice none 0 0] 37 (0,0))/\ExSt W.heap.size W wr oN o2 X X k l (exF d l q) (exT d k l q) hs sa sc mv sf cf sn cn)
 case atStart=>exact⟨0,[S],[],fun _=>False,sa2,sc2,mv2,none,0,none,0,rfl,rfl,by simp,by rw[HS.out];exact ExL.start HD.out,c4.out,h0.out⟩
 clear h0 c2 a4 h2 j2 m8 c4 m2 m1;obtain⟨q,l,hs,X,sa,sc,mv,sf,cf,sn,cn,b4,rfl,d9,a8,H3,h3⟩:=hrel;obtain⟨m7,a9,h2,h0⟩:=K4 b4 a8 H3 h3;have q7:=a8.le;have p9:=h3.grown.size;obtain⟨c0,c1⟩:=uY h3.num.box;clear b4 a8 H3 h3;by_cases hk':q<l.length
 ·have f9:(q:Int)<l.length:=by omega
  obtain⟨lb,lo,lc,el,q8,k9,a6,k8⟩:=(Row.of_owns h0.out.num.own).some_ (by rw[zQ];omega);rw[zQ]at el k9;simp only[Value.slice.injEq]at el;obtain⟨rfl,_,rfl⟩:=el;have cq:=k8.nat q hk';obtain⟨s,c7⟩:=Nm (l.getD q 0);have c6:s<n:=(by rw[c7,zN hk'];exact a9.out.acc.lt _ (List.getElem_mem hk'));rw[<-c7]at cq;have b8:=Kh c7;clear k8 c7;go_wp2_with (first|(at_make;refine qV rfl _ _ _ rfl yI rfl .i64 .i64 _ _ k rfl rfl rfl rfl ?b1 ?b2 ?_)|fail)
  case b1=>omega
  case b2=>unfold maxLen;omega
  intro w4 h6 i0 f7;obtain⟨g,hg⟩:=Nm wr.heap.size;rw[<-hg]at h6⊢;have n2:Hid (Arr w4 g 3 (nats (nN d k s 0))):=Kh (by rw[qEF,yQ];exact h6);have m3:=Kh (h0.out.fresh i0 (g:=g) (by omega) (by omega));have n1:=Kh (zB h2.out i0);have l7:¬X g:=fun hx=>by have:=h0.out.lt g hx;omega
  have o8:=Kh l7;have o6:W.heap.size<=g:=by omega
  have o5:o0<g:=(by have:=zR h2.out;omega);have k2:=fun x (hx:x<=k)=>a9.out.rowLen HD.out hk' hx;have j0:=Kh k2;clear h6 i0 l7 f7 hg k2 h0 h2 c0 c1 cq;go_wp2_with fail
  go_loopg [16,37] k (fun gh a16 i wr=>∃(x:Nat) (sa:Option Addr) (sc:Nat) (mv:Option Nat),gh+x=k/\i=.int .i64 x/\Arr wr g 3 (nats (nN d k s x))/\wr.heap[o0]?=some (.cells #[.int .i64 0,.int .i64 0,.slice none 0 0,.slice none 0 0] 37 (0,0))/\ExSt W.heap.size W wr oN o2 X (fun j=>X j\/j=g) k (wV d l q x) (exF d l q) (exT d k l q) hs sa sc mv sf cf sn cn)
  case atStart=>exact⟨0,_,_,_,rfl,rfl,n2.out,n1.out,m3.out⟩
  clear n2 m3 n1 k9 a6;obtain⟨x,sa,sc,mv,b4,rfl,h6,H3,h3⟩:=hrel;obtain⟨c3,j6,h2,h0⟩:=K4 b4 h6 H3 h3;have p8:=h3.grown.size;have q6:=h3.loB.2;clear b4 h6 H3 h3;by_cases hx':x<k
  ·have d6:(x:Int)<k:=by omega
   have d4:=Kh (HT.out.grow h0.out.grown);have k7:=j0.out x (by omega);have f6:=oY HD.out c6 hx';go_wp2_with fail;refine(qFE d4.out c6 hx').mono ?_;rintro e w5 ⟨rfl,rfl⟩;obtain⟨y,hy⟩:=Nm (nx d s x);rw[<-hy]at f6⊢;have HY:=Kh hy;clear hy;go_wp2_with fail;refine(aI W.heap.size wr oN sa sc mv (wV d l q x) y h0.out.num (by omega) (by omega) (by omega)).mono ?_;rintro e w5 ⟨sa5,sc5,mv5,rfl,H0,h4,b3⟩;have e5:xY (wV d l q x) y=wV d l q (x+1):=by rw[HY.out,b8.out];rfl
   have e6:(wV d l q (x+1)).idxOf y=(yH d k).idxOf y:=by rw[HY.out,b8.out];exact a9.out.idx HD.out hk' hx'
   rw[e5]at H0;rw[e5,e6];have q0:=h4.size;have b6:=j6.out.but h4 (fun hf=>h0.out.sep g hf (.inr rfl))
   have l5:=h4.heap h2.out (fun hf=>by
    rcases hf with e|e|e
    ·omega
    ·rw[<-yG sa (wV d l q x).length sc]at e
     exact zS h0.out.num.own h2.out (by decide) e
    rcases h0.out.num.map with ⟨e2,_⟩|⟨mb,e2,_,_,_,_,hm⟩
    ·rw[e2]at e;cases e
    rw[e2]at e;have:=Oj e;subst this;obtain⟨es,cl,hm⟩:=hm.obj
    rw[h2.out]at hm;simp at hm)
   have k0:=h0.out.num_step H0 h4 b3;have cg:=b6.nat x (by rw[nM (by omega)];exact hx');have fg:=b6.frozen x;have H8:=b6.nat_set x (by rw[nM (by omega)];exact hx') ((yH d k).idxOf y);have a8:(nN d k s x).set x ((yH d k).idxOf y)=nN d k s (x+1):=by rw[HY.out];exact qHU hx'
   rw[a8]at H8;obtain⟨b9,p6,p7,p0⟩:=K4 H8 l5 b6 k0;have q4:(nats (nN d k s x)).length=k:=by rw[zQ,nM (by omega)]
   obtain⟨I,hI⟩:=Nm ((yH d k).idxOf y);rw[<-hI]at b9⊢;clear e5 e6 H0 h4 b3 b6 l5 k0 H8 a8 hI;go_wp2_with fail;go_roundg (k-(x+1))
   case measure=>have:=c3.out;omega
   obtain⟨cur,rest,i3,_⟩:=p7.out;have l0:=zG w5 ⟨g,x,none⟩ (.int .i64 (I:Int));exact⟨x+1,sa5,sc5,mv5,by omega,by go_num,b9.out,zB p6.out l0 (fun e=>by have e:g=o0:=Oj e;omega),p0.out.put l0 i3 (.inr rfl) o8.out o6⟩
  have n4:x=k:=by have:=c3.out;omega
  subst n4;have d6:¬(x:Int)<x:=(by omega);obtain⟨m,hm⟩:=Nm (wV d l q x);have k7:=j0.out x (by omega);have m0:=Kh (a9.out.next HD.out hk')
  have o4:q<m.length:=by
   have:=(tF d l q x).length_le;rw[hm];omega
  have j1:=Kh (tF d l q x);rw[<-hm]at m0 j1 h0 k7;have HM:=Kh hm;clear hm;obtain⟨c0,c1⟩:=uY h0.out.num.box;obtain⟨d0,d1,d2,d3⟩:=zP h0.out.box;have f3:=zA h0.out.box 3;have q5:¬((512:Int)<m.length):=by omega
  have H4:Hid (RowX (fun j=>X j\/(X j\/j=g)) 3 wr (.slice (some ⟨g,0,none⟩) x x) (ints (wO (yH d x) (d.next.getD s [])))):=Kh (by
   have e:=qEG HD.out (q:=s) (fun a ha=>by rw[b8.out];exact a9.out.done_mem HD.out hk' ha) c6;have h9:=RowX.of_arr (X:=fun j=>X j\/(X j\/j=g)) j6.out (by rw[zQ,nM (Nat.le_refl x)]) (by unfold maxLen;omega) (.inr (.inr rfl));rw[show nats (nN d x s x)=ints (zl (nN d x s x)) by simp[nats,ints,zl],e]at h9
   exact h9)
  go_wp2_with (first|(at_builtin;refine kD rfl _ _ _ rfl wH o2 (.slice sn (exT d x l q).length cn) (exT d x l q).length hs rfl h0.out.ownN (.slice (some ⟨g,0,none⟩) x x) rfl rfl ?a1 ?a2 ?a3 ?_;(case a1=>(unfold maxLen;rw[qBK d9];omega));(case a2=>(rw[qBK d9];omega));(case a3=>exact Nat.le_of_lt (zR h0.out.box));intro sn6 cn6 w6 H6 c9 n3 f4;(have i7:=zB h0.out.box c9 (zS h0.out.ownN h0.out.box (by decide)));(obtain⟨e0,e1,e2,e3⟩:=zP i7);(have fz6:=zA i7 3))|fail);have h8:=Kh (h0.out.pushN rfl H6 c9 H4.out rfl);obtain⟨wo,c5⟩:=Nm (w6.setCell ⟨o2,3,none⟩ (.slice sn6 ((exT d x l q).length+1) cn6));rw[<-c5]at h8⊢;have o9:=Kh c5
  have j5:Hid (wo.heap[o0]?=some (.cells #[.int .i64 0,.int .i64 0,.slice none 0 0,.slice none 0 0] 37 (0,0))):=Kh (by
   rw[c5]
   exact zB (zB h2.out c9 (zS h0.out.ownN h2.out (by decide))) (zG w6 ⟨o2,3,none⟩ _) (fun e=>H9 (Oj e).symm))
  have d4:=Kh (HT.out.grow h8.out.grown);obtain⟨d0,d1,d2,d3⟩:=zP h8.out.box;have fz2:=zA h8.out.box 2;have m6:Hid (∀w',wo.grownBy w' none->w'.ownsRow o2 4 1 (.slice sf (exF d l q).length cf) (exF d l q).length (bls (exF d l q))/\o2<=w'.heap.size):=Kh (fun w' hg=>⟨zX h8.out.ownF hg,Nat.le_of_lt (Nat.lt_of_lt_of_le (zR h8.out.box) hg.size)⟩)
  have p5:Hid (∀w7 w',wo.grownBy w7 none->w7.grownBy w' (Value.slice sf (exF d l q).length cf).ownBlock->w'.frozen? ⟨o2,2,none⟩=false/\w'.cell? ⟨o2,2,none⟩=some (.slice sf (exF d l q).length cf)):=Kh (fun w7 w' h7 hg=>by
   have hb:=zB (zB h8.out.box h7) hg (zS h8.out.ownF h8.out.box (by decide))
   exact⟨zA hb 2,(zP hb).2.2.1⟩)
  have j4:=Kh (qHV (d:=d) d9);have k4:=zR h8.out.box;obtain⟨bf,i5⟩:=Nm (d.final.getD s false);have n0:=Kh i5;have m9:Hid (∀w',wo.grownBy w' none->Calls Try.prog 89 #[.int .i64 (s:Int),.pointer (some ⟨P,0,none⟩)] w' fun e w''=>e=.returned (.bool bf)/\w'=w''):=Kh (fun w' hg=>by rw[i5];exact qFD (d4.out.grow hg) c6);clear i5;clear c5 n3 f4 H6 c9 i7 e0 e1 e2 e3 fz6
  have H7:Hid (∀(W1 w':World) (sf':Option Addr) (cf':Nat),w'.ownsRow o2 4 1 (.slice sf' ((exF d l q).length+1) cf') ((exF d l q).length+1) (bls (exF d l q)++[.bool bf])->W1.grownBy w' (Value.slice sf (exF d l q).length cf).ownBlock->wo.grownBy W1 none ->
    (∃(hs:List Value) (X:Nat->Prop) (sa:Option Addr) (sc:Nat) (mv:Option Nat) (sn:Option Addr) (cn:Nat),ExSt W.heap.size W (w'.setCell ⟨o2,2,none⟩ (.slice sf' ((exF d l q).length+1) cf')) oN o2 X X x m (exF d m (q+1)) (exT d x m (q+1)) hs sa sc mv sf' cf' sn cn) /\
    (w'.setCell ⟨o2,2,none⟩ (.slice sf' ((exF d l q).length+1) cf')).heap[o0]?=some (.cells #[.int .i64 0,.int .i64 0,.slice none 0 0,.slice none 0 0] 37 (0,0))/\w'.frozen? ⟨o2,2,none⟩=false/\w'.cell? ⟨o2,2,none⟩=some (.slice sf (exF d l q).length cf)):=Kh (fun W1 w' sf' cf' ho hg h1=>by
   have b7:=h8.out.grow h1;have l6:=zB b7.box hg (zS b7.ownF b7.box (by decide));have hp:=b7.pushF (b:=bf) rfl ho hg rfl;have eF:exF d l q++[bf]=exF d m (q+1):=by rw[qKP j1.out hk',<-b8.out,<-n0.out]
   have eT:exT d x l q++[wO (yH d x) (d.next.getD s [])]=exT d x m (q+1):=by rw[qKO j1.out hk',<-b8.out]
   rw[eF,eT]at hp
   exact⟨⟨_,_,_,_,_,_,_,hp⟩,zB (zB (zB j5.out h1) hg (zS b7.ownF (zB j5.out h1) (by decide))) (zG w' ⟨o2,2,none⟩ _) (fun e=>H9 (Oj e).symm),zA l6 2,(zP l6).2.2.1⟩)
  have j3:Hid (∀W1:World,wo.grownBy W1 none->W1.ownsRow o2 4 1 (.slice sf (exF d l q).length cf) (exF d l q).length (bls (exF d l q))/\o2<=W1.heap.size):=m6;clear m6 p5
  go_region_law (first|(go_simp;go_at_call 89;refine(m9.out _ (by first|exact zY wo none|exact zT wo _ none)).mono ?_;rintro e w' ⟨rfl,rfl⟩)|(refine bL ?g1 (.tmp 61) (.tmp 65) 26 ?g2 wN o2 (.slice sf (exF d l q).length cf) (exF d l q).length (bls (exF d l q)) ?g3 ?g4 (.bool bf) wo.heap.size (0,0) ?g5 ?g6 ?g7 ?g8 ?g9 ?g10 ?_;(case g1=>rfl);(case g2=>rfl);(case g3=>rfl);(case g4=>(refine(j3.out _ ?_).1;exact qA (o:=.cells #[.bool bf] 4) rfl rfl rfl rfl));(case g5=>rfl);(case g6=>exact heap_alloc_new (wo.drew) _);(case g7=>rfl);(case g8=>(rw[j4.out];unfold maxLen;omega));(case g9=>(rw[j4.out];omega));(case g10=>(refine(j3.out _ ?_).2;exact qA (o:=.cells #[.bool bf] 4) rfl rfl rfl rfl));intro sf8 cf8 w8 H5 l1;have c8:=H7.out _ _ _ _ H5 l1 (qA (o:=.cells #[.bool bf] 4) rfl rfl rfl rfl);have i1:=c8.2.2.1;have i2:=c8.2.2.2;have m5:=Kh c8;clear c8 H5 l1)|fail)
  all_goals
   clear H7 j3 m9 j5 n0 o9 d4 h8 d0 d1 d2 d3 fz2 i1 i2 j4 j0 H4 j6 h2;obtain⟨w9,j9⟩:=Nm (w8.setCell ⟨o2,2,none⟩ (.slice sf8 ((exF d l q).length+1) cf8));rw[<-j9]at m5⊢;clear j9;go_wp2;go_roundg (n-(q+1))
   case measure=>have:=m7.out;omega
   obtain⟨⟨n5,X9,sa9,sc9,mv9,sn9,cn9,d8⟩,i9,_,_⟩:=m5.out;exact⟨q+1,m,n5,X9,sa9,sc9,mv9,sf8,cf8,sn9,cn9,by have:=m7.out;omega,by go_num,o4,m0.out,i9,d8⟩
 have f9:¬(q:Int)<l.length:=by omega
 have d5:=Kh (a9.out.done hk');have m4:Hid (q=l.length):=Kh (by omega);obtain⟨d0,d1,d2,d3⟩:=zP h0.out.box;obtain⟨e0,e1,e2,e3⟩:=zP h2.out;have f0:=zA h2.out 0;have f1:=zA h2.out 1;have f2:=zA h2.out 2;have f3:=zA h2.out 3;go_wp2_with fail;obtain⟨c0,c1⟩:=uY h0.out.num.box;have o3:o0≠oN:=by omega
 go_region
 all_goals (try go_frame)
 all_goals go_wp2
 obtain⟨i4,g0⟩:=rT h2.out (.int .i64 (k:Int)) (.int .i64 0) (.slice sf (exF d l q).length cf) (.slice sn (exT d k l q).length cn);obtain⟨wz,j7⟩:=Nm ((((wr.setCell ⟨o0,0,none⟩ (.int .i64 (k:Int))).setCell ⟨o0,1,none⟩ (.int .i64 0)).setCell ⟨o0,2,none⟩ (.slice sf (exF d l q).length cf)).setCell ⟨o0,3,none⟩ (.slice sn (exT d k l q).length cn));rw[<-j7]at i4 g0⊢;clear j7;have a0:=zC (row:=some o0) g0 (zY wz none) (by simp);have l4:wz.drew.heap[o0]?=some (.cells #[.int .i64 (k:Int),.int .i64 0,.slice sf (exF d l q).length cf,.slice sn (exT d k l q).length cn] 37 (0,0)):=i4;obtain⟨wf,j8⟩:=Nm wz.drew;rw[<-j8]at a0 l4⊢;obtain⟨r0,r1,r2,r3⟩:=zP l4;clear j8 i4 g0;refine bodyPost_ret (v:=.tuple #[.agg #[.int .i64 (k:Int),.int .i64 0,.slice sf (exF d l q).length cf,.slice sn (exT d k l q).length cn],.slice sa l.length sc,.int .i64 0]) (by simp[results,Try.results87,go_sem,r0,r1,r2,r3]) rfl ?_
 have eF:exF d l q=(wG d k).final:=by
  rw[exF,m4.out,List.take_length,d5.out];rfl
 have eT:exT d k l q=(wG d k).next:=by
  rw[exT,m4.out,List.take_length,d5.out];rfl
 have h3:=h0.out;have o7:W.grownBy wf none:=yN h3.grown a0 (by show _<=o0;omega);have e4:xI wr 3 o0:=⟨_,_,_,h2.out,by decide⟩;have f8:(exF d l q).length=(exT d k l q).length:=by rw[qHV (by omega),qBK (by omega)]
 have i8:=zB h3.box a0 (fun e=>H9 (Oj e));have l9:=h3.ownF.kept a0 (.inr (zS h3.ownF h2.out (by decide)));have l8:=h3.ownN.kept a0 (.inr (zS h3.ownN h2.out (by decide)));have k3:=(h3.rows.keptT a0 (fun k e=>by have e:o0=k:=Oj e;subst e;exact e4)).rowsT;have a6:=h3.num.own.kept a0 (.inr (zS h3.num.own h2.out (by decide)));have l3:(wG d k).letters=k:=HD.out.hk;rw[eF]at f8 i8 l9⊢;rw[eT]at f8 i8 l8 k3⊢;refine⟨_,sa,sc,by rw[<-d5.out],?_,by rw[<-d5.out];exact a6,o7⟩;exact⟨o2,hs,sf,cf,sn,cn,by rw[l3];rfl,b0,by rw[l3];exact i8,l9,l8,k3,f8⟩
end Go.Proofs.Ytobakifdllameaa
namespace Go.Proofs.Ytobakifdllameaa
open Go.RowKit
structure BX (W0 W:World)(o:Nat)(X:Nat->Prop)(k:Nat)(fs:List Bool)(t:List (List Int))(hs:List Value)(sf:Option Addr)(cf:Nat)(sn:Option Addr)(cn:Nat):Prop where
 lt:∀j,X j->j<W.heap.size
 box:W.heap[o]?=some (.cells #[.int .i64 (k:Int),.int .i64 0,.slice sf fs.length cf,.slice sn t.length cn] 37 (0,0))
 ownF:W.ownsRow o 4 1 (.slice sf fs.length cf) fs.length (bls fs)
 ownN:W.ownsRow o 22 1 (.slice sn t.length cn) t.length hs
 rows:xO X 3 ints W hs t
 lo:W0.heap.size<=o
 grown:W0.grownBy W none
section
variable {W0 W W':World} {o k:Nat} {X:Nat->Prop} {fs:List Bool} {t:List (List Int)} {hs:List Value} {sf:Option Addr} {cf:Nat} {sn:Option Addr} {cn:Nat}
theorem BX.start {w:World}{o k:Nat}(hb:w.heap[o]?=some (.cells #[.int .i64 (k:Int),.int .i64 0,.slice none 0 0,.slice none 0 0] 37 (0,0)))(h0:W0.heap.size<=o)(hg:W0.grownBy w none):BX W0 w o (fun _=>False) k [] [] [] none 0 none 0 :=
 ⟨fun _ h=>h.elim,hb,World.ownsRow_nil _ _ _ _,World.ownsRow_nil _ _ _ _,xO.nil,h0,hg⟩
theorem BX.grow (h:BX W0 W o X k fs t hs sf cf sn cn)(hg:W.grownBy W' none):BX W0 W' o X k fs t hs sf cf sn cn where
 lt:=fun j hj=>Nat.lt_of_lt_of_le (h.lt j hj) hg.size
 box:=zB h.box hg
 ownF:=zX h.ownF hg
 ownN:=zX h.ownN hg
 rows:=h.rows.keptT hg (by simp)
 lo:=h.lo
 grown:=zC h.grown hg
theorem BX.put (h:BX W0 W o X k fs t hs sf cf sn cn){g:Nat}{c:Array Value}{m:Nat×Nat}(hg:W.grownBy W' (some g))(hc:W.heap[g]?=some (.cells c 3 m))(hX:¬X g)(h0:W0.heap.size<=g):BX W0 W' o X k fs t hs sf cf sn cn where
 lt:=fun j hj=>Nat.lt_of_lt_of_le (h.lt j hj) hg.size
 box:=zB h.box hg (fun e=>by
  have:=Oj e
  subst this
  rw[h.box]at hc
  simp only[Option.some.injEq,Obj.cells.injEq]at hc
  exact absurd hc.2.1 (by decide))
 ownF:=h.ownF.kept hg (.inr (zS h.ownF hc (by decide)))
 ownN:=h.ownN.kept hg (.inr (zS h.ownN hc (by decide)))
 rows:=h.rows.kept (fun j hj=>hg.block j (h.lt j hj) (fun e=>by have:=Oj e;subst this;exact hX hj)) hg.size
 lo:=h.lo
 grown:=zC h.grown hg (fun j e=>by have:=Oj e;omega)
theorem BX.pushN (h:BX W0 W o X k fs t hs sf cf sn cn){m:Nat}(hm:t.length=m){rv:Value}{row:List Int}{a9:Option Addr}{a8:Nat}{Y:Nat->Prop}(a6:∀j,X j->Y j)(hY:∀j,Y j->j<W.heap.size)(ho:W'.ownsRow o 22 1 (.slice a9 (m+1) a8) (m+1) (hs++[rv]))(hg:W.grownBy W' (Value.slice sn m cn).ownBlock)(a7:RowX Y 3 W rv (ints row)){W2:World}(a5:W2=W'.setCell ⟨o,3,none⟩ (.slice a9 (m+1) a8)):BX W0 W2 o Y k fs (t++[row]) (hs++[rv]) sf cf a9 a8:=by
 subst hm;have hb:=zB h.box hg (zS h.ownN h.box (by decide));have h0:=heap_setCell_same W' o 3 _ _ (.slice a9 (t.length+1) a8) hb;have g2:=zG W' ⟨o,3,none⟩ (.slice a9 (t.length+1) a8);rw[<-a5]at h0 g2
 have h1:=h.ownF.kept hg (by
  rcases hv:(Value.slice sf fs.length cf).ownBlock with _|j
  ·exact .inl rfl
  refine .inr fun e=>?_;obtain⟨cu,e',mm,hh,h5⟩:=wW (e':=22) h.ownF (by decide) j hv
  exact zS h.ownN hh (fun e2=>h5 e2.symm) e.symm)
 have h3:xO Y 3 ints W (hs++[rv]) (t++[row]):=(h.rows.mono a6).snoc a7;have h2:=h3.keptT hg (fun j e=>wW h.ownN (by decide) j e);have h4:xI W' 3 o:=⟨_,_,_,hb,by decide⟩;have hz:=hg.size;have h6:=g2.size
 exact⟨fun j hj=>by have:=hY j hj;omega,by rw[h0];simp,h1.kept g2 (.inr (zS h1 hb (by decide))),by
  rw[List.length_append]
  exact ho.kept g2 (.inr (zS ho hb (by decide))),h2.keptT g2 (fun j e=>by have:=Oj e;subst this;exact h4),h.lo,yN (zC h.grown hg (fun j e=>Nat.le_trans h.lo (h.ownN.lt j e).1)) g2 (by show _<=o;have:=h.lo;omega)⟩
theorem BX.pushF (h:BX W0 W o X k fs t hs sf cf sn cn){m:Nat}(hm:fs.length=m){b:Bool}{a9:Option Addr}{a8:Nat}(ho:W'.ownsRow o 4 1 (.slice a9 (m+1) a8) (m+1) (bls fs++[.bool b]))(hg:W.grownBy W' (Value.slice sf m cf).ownBlock){W2:World}(a7:W2=W'.setCell ⟨o,2,none⟩ (.slice a9 (m+1) a8)):BX W0 W2 o X k (fs++[b]) t hs a9 a8 sn cn:=by
 subst hm;have hb:=zB h.box hg (zS h.ownF h.box (by decide));have h0:=heap_setCell_same W' o 2 _ _ (.slice a9 (fs.length+1) a8) hb;have g2:=zG W' ⟨o,2,none⟩ (.slice a9 (fs.length+1) a8);rw[<-a7]at h0 g2
 have h1:=h.ownN.kept hg (by
  rcases hv:(Value.slice sn t.length cn).ownBlock with _|j
  ·exact .inl rfl
  refine .inr fun e=>?_;obtain⟨cu,e',mm,hh,h4⟩:=wW (e':=4) h.ownN (by decide) j hv
  exact zS h.ownF hh (fun e2=>h4 e2.symm) e.symm)
 have h2:=h.rows.keptT hg (fun j e=>wW h.ownF (by decide) j e);have h3:xI W' 3 o:=⟨_,_,_,hb,by decide⟩;have hz:=hg.size;have h6:=g2.size;have h5:bls (fs++[b])=bls fs++[.bool b]:=by simp[bls]
 exact⟨fun j hj=>by have:=h.lt j hj;omega,by rw[h0];simp,by
  rw[List.length_append,h5]
  exact ho.kept g2 (.inr (zS ho hb (by decide))),h1.kept g2 (.inr (zS h1 hb (by decide))),h2.keptT g2 (fun j e=>by have:=Oj e;subst this;exact h3),h.lo,yN (zC h.grown hg (fun j e=>Nat.le_trans h.lo (h.ownF.lt j e).1)) g2 (by show _<=o;have:=h.lo;omega)⟩
theorem BX.built (h:BX W0 W o X k fs t hs sf cf sn cn)(hl:fs.length=t.length):Built o W o k 0 fs t hs sf cf sn cn:=⟨h.box,h.ownF,h.ownN,h.rows.rowsT,hl⟩
end
def tI (d:DfaV)(p:List Nat)(q:Nat):List Bool:=(tH p q).map fun q=>d.final.getD q false
def sJ (d:DfaV)(p:List Nat)(q:Nat):List (List Int):=(tH p q).map fun q=>uH p (d.next.getD q [])
theorem qDO {d:DfaV}{p:List Nat}{q:Nat}(h:p.getD q 0=cls (p.take q)):tI d p (q+1)=tI d p q++[d.final.getD q false]:=by
 rw[tI,uD h,List.map_append];rfl
theorem qDM {d:DfaV}{p:List Nat}{q:Nat}(h:p.getD q 0=cls (p.take q)):sJ d p (q+1)=sJ d p q++[uH p (d.next.getD q [])]:=by
 rw[sJ,uD h,List.map_append];rfl
theorem qDN {d:DfaV}{p:List Nat}{q:Nat}(h:p.getD q 0≠cls (p.take q)):tI d p (q+1)=tI d p q:=by rw[tI,uB h];rfl
theorem qDL {d:DfaV}{p:List Nat}{q:Nat}(h:p.getD q 0≠cls (p.take q)):sJ d p (q+1)=sJ d p q:=by rw[sJ,uB h];rfl
theorem fV {d:DfaV}{p:List Nat}{q:Nat}(h:Norm p)(hq:q<=p.length):(tI d p q).length=cls (p.take q):=by rw[tI,List.length_map,uI h q hq]
theorem fU {d:DfaV}{p:List Nat}{q:Nat}(h:Norm p)(hq:q<=p.length):(sJ d p q).length=cls (p.take q):=by rw[sJ,List.length_map,uI h q hq]
theorem qFZ {d:DfaV}{p:List Nat}{q:Nat}(hq:q=p.length)(h0:p.getD (st0 d) 0=0):(⟨d.letters,0,tI d p q,sJ d p q⟩:DfaV)=tO d p:=by
 rw[hq,tO,h0];rfl
theorem qGQ {p:List Nat}(h:Norm p):p.getD 0 0=0:=by
 by_cases h0:0<p.length
 ·have:=(lO h h0).1
  rw[List.take_zero]at this;simpa [cls,yM] using this
 rw[List.getD,List.getElem?_eq_none (by omega)];rfl
theorem rR (B:Nat)(w:World)(v:Value)(d:DfaV)(hB:B<=w.heap.size)(h:rB B w v d):Calls Try.prog 28 #[v] w fun e w'=>e=.returned (.int .i64 (vX d))/\w.grownBy w' none:=by
 obtain⟨fv,nv,rfl,hf,hn⟩:=h;have a2:=hf.len_le;rw[zZ]at a2;unfold maxLen at a2;have a5:=hn.len_le;unfold maxLen at a5;obtain⟨fa,fc,rfl⟩:=hf.shape;rw[zZ]at hf⊢;obtain⟨na,nc,rfl⟩:=hn.shape;have HN:=Kh hn;obtain⟨n,a0⟩:=Nm d.final.length;obtain⟨m,a1⟩:=Nm d.next.length;obtain⟨L,hL⟩:=Nm d.letters;obtain⟨S,hS⟩:=Nm d.start;rw[<-a0]at a2⊢;rw[<-a1]at a5 HN⊢;rw[<-hL,<-hS];obtain⟨H0,H1,H8,b0⟩:=K4 a0 a1 hL hS;clear hf hn a0 a1 hL hS;obtain⟨wA,H6⟩:=Nm (w.alloc (.cells #[.int .i64 L,.int .i64 S,.slice fa n fc,.slice na m nc] 37));have h3:wA.heap[w.heap.size]?=some (.cells #[.int .i64 L,.int .i64 S,.slice fa n fc,.slice na m nc] 37 (0,0)):=by rw[H6];exact heap_alloc_new w _
 have a7:w.grownBy wA none:=by rw[H6];exact Ga w _ none
 have c0:=zF h3 0;have c1:=zF h3 1;have c2:=zF h3 2;have c3:=zF h3 3;simp only[List.getElem_toArray,List.getElem_cons_zero,List.getElem_cons_succ]at c0 c1 c2 c3;have h4:=Kh a7;have h9:=Kh H6;clear h3 a7 H6;by_cases hl:L<1\/6<L
 ·have HE:=Kh (mP (d:=d) (by rw[<-H8.out];exact hl))
  by_cases h1:L<1
  ·clear hl
   go_enter Try.func28,Try.ntmps28;go_upto_region 1 with fail;rw[<-h9.out];go_wp2;go_ret;exact⟨yX HE.out.symm,h4.out⟩
  have h6:6<L:=by omega
  clear hl;go_enter Try.func28,Try.ntmps28;go_upto_region 1 with fail;rw[<-h9.out];go_wp2;go_ret;exact⟨yX HE.out.symm,h4.out⟩
 have c7:1<=L:=by omega
 have c6:L<=6:=by omega
 have H2:Hid (¬(d.letters<1\/6<d.letters)):=Kh (by rw[<-H8.out];exact hl);clear hl;by_cases h5:512<n
 ·have HE:=Kh (fM H2.out (by rw[<-H0.out];exact h5))
  go_enter Try.func28,Try.ntmps28;go_upto_region 1 with fail;rw[<-h9.out];go_wp2;go_ret;exact⟨yX HE.out.symm,h4.out⟩
 have H5:Hid (¬512<d.final.length):=Kh (by rw[<-H0.out];exact h5);by_cases hsh:n=0\/m≠n\/S<0\/n<=S
 ·have HE:=Kh (kY H2.out H5.out (by rw[<-H0.out,<-H1.out,<-b0.out];exact hsh))
  ·by_cases h8:m=n
   ·have e1:((m:Int) != n)=false:=by rw[h8];simp
    have b7:=Kh h8;by_cases hs:S<0
    ·clear hsh h8
     go_enter Try.func28,Try.ntmps28;go_upto_region 1 with fail;rw[<-h9.out];go_wp2;go_ret;exact⟨yX HE.out.symm,h4.out⟩
    have b1:(n:Int)<=S:=by omega
    clear hsh h8;go_enter Try.func28,Try.ntmps28;go_upto_region 1 with fail;rw[<-h9.out];go_wp2;go_ret;exact⟨yX HE.out.symm,h4.out⟩
   have e1:((m:Int) != n)=true:=by rw[bne_iff_ne];omega
   clear hsh;go_enter Try.func28,Try.ntmps28;go_upto_region 1 with fail;rw[<-h9.out];go_wp2;go_ret;exact⟨yX HE.out.symm,h4.out⟩
 have H7:Hid (¬(d.final.length=0\/d.next.length≠d.final.length\/d.start<0\/d.final.length<=d.start)):=Kh (by rw[<-H0.out,<-H1.out,<-b0.out];exact hsh);have h0:0<n:=(by omega);have e0:((n:Int) == 0)=false:=by rw[beq_eq_false_iff_ne];omega
 have h8:m=n:=by omega
 have e1:((m:Int) != n)=false:=by rw[h8];simp
 have c4:0<=S:=by omega
 have b1:S<n:=(by omega);have b2:0<m:=(by omega);have a9:Mat B wA (.slice na m nc) d.next:=HN.out.kept h4.out (by simp);obtain⟨b,off,cap,A,C,e,b6,b5,a6⟩:=a9.some_ (by rw[<-H1.out];exact b2);simp only[Value.slice.injEq]at e;obtain⟨rfl,-,rfl⟩:=e;rw[<-H1.out]at b6;have c5:nc<=9223372036854775807:=by unfold maxLen at b5;omega
 have HM:=Kh a6;have b7:=Kh h8;clear hsh h8 a9 a6;go_enter Try.func28,Try.ntmps28;go_upto_region 1 with fail;rw[<-h9.out];go_wp2
 go_loopg [40] m (fun g i wr=>∃k:Nat,g+k=m/\i=.int .i64 k/\qOW d k/\wA=wr)
 case atStart=>exact⟨0,rfl,rfl,fun x hx=>absurd hx (by omega),rfl⟩
 obtain⟨k,hg,rfl,H3,rfl⟩:=hrel;have OK:=Kh H3;have HG:=Kh hg;clear H3 hg;by_cases hk:k<m
 ·have H4:k<d.next.length:=by rw[<-H1.out];exact hk
  have a8:=HM.out.hd k H4;have h7:=HM.out.row k H4;have H9:=h7.len_le;rw[zO]at H9;unfold maxLen at H9;obtain⟨r,hr⟩:=Nm (d.next.getD k []);rw[<-hr]at a8 h7 H9;have HR:=Kh hr;have a3:=Kh H4;clear hr H4;by_cases hlr:(r.length:Int)=L
  ·have b8:=Kh hlr
   have b3:((r.length:Int) != L)=false:=by rw[hlr];simp
   obtain⟨rb,ro,rc,e,hb,h1,h2,a4⟩:=h7.some_ (by rw[zO];omega);simp only[Value.slice.injEq]at e;obtain⟨eA,-,rfl⟩:=e;rw[eA]at a8;rw[zO]at h1;have HA:=Kh eA;have RA:=Kh a4;clear eA a4 hlr h7;go_wp2
   go_loopg [51] r.length (fun g j wr'=>∃y:Nat,g+y=r.length/\j=.int .i64 y/\qIP n r y/\wA=wr')
   case atStart=>exact⟨0,rfl,rfl,fun x hx=>absurd hx (by omega),rfl⟩
   obtain⟨y,hg,rfl,H3,rfl⟩:=hrel;have OKY:=Kh H3;have b9:=Kh hg;clear H3 hg;by_cases hy:y<r.length
   ·have b4:=RA.out.int y hy
    obtain⟨z,hz⟩:=Nm (r.getD y 0);rw[<-hz]at b4;have HZ:=Kh hz;clear hz;by_cases hb1:z<0
    ·have HE:=Kh (rX H2.out H5.out H7.out a3.out (by rw[<-HR.out];exact jV (y:=y) hy (by rw[<-HZ.out];exact .inl hb1)))
     go_wp2;go_ret;exact⟨yX HE.out.symm,h4.out⟩
    by_cases hb2:(n:Int)<=z
    ·have HE:=Kh (rX H2.out H5.out H7.out a3.out (by rw[<-HR.out];exact jV (y:=y) hy (by rw[<-HZ.out,<-H0.out];exact .inr hb2)))
     go_wp2;go_ret;exact⟨yX HE.out.symm,h4.out⟩
    go_wp2;go_roundg (r.length-(y+1))
    case measure=>have:=b9.out;omega
    refine⟨y+1,by omega,by go_num,fun x hx=>?_,rfl⟩;rcases Nat.lt_succ_iff_lt_or_eq.1 hx with hx|rfl
    ·exact OKY.out x hx
    rw[<-HZ.out];omega
   go_wp2;go_roundg (m-(k+1))
   case measure=>have:=HG.out;omega
   refine⟨k+1,by omega,by go_num,fun x hx=>?_,rfl⟩;rcases Nat.lt_succ_iff_lt_or_eq.1 hx with hx|rfl
   ·exact OK.out x hx
   rw[<-HR.out,pQ,<-H0.out,<-H8.out];exact⟨b8.out,fun z hz=>OKY.out z (by omega)⟩
  have b3:((r.length:Int) != L)=true:=by rw[bne_iff_ne];exact hlr
  have HE:=Kh (rX H2.out H5.out H7.out a3.out (by rw[<-HR.out];exact qCI (by rw[<-H8.out];exact hlr)));clear hlr;go_wp2;go_ret;exact⟨yX HE.out.symm,h4.out⟩
 have HE:=Kh (bH H2.out H5.out H7.out (fun q hq=>OK.out q (by have:=H1.out;omega)));go_wp2;go_ret;exact⟨yX HE.out.symm,h4.out⟩
def qNL (w:World)(d:DfaV)(n k:Nat)(e:Ending)(w':World):Prop :=
 ∃v G,e=.returned (.tuple #[v,.slice (some ⟨G,0,none⟩) n n])/\tJ w w' v (wG d k)/\w.heap.size<=G/\Arr w' G 3 (ints (tS n (yH d k)))/\w.grownBy w' none
theorem bS (B:Nat)(w:World)(v:Value)(d:DfaV)(n k:Nat)(hB:B<=w.heap.size)(h:rB B w v d)(hd:VD d n k)(h5:n<=512):Calls Try.prog 68 #[v] w (qNL w d n k):=by
 have H0:=h;obtain⟨fb,fo,fc,b,off,cap,RB,RO,RC,rfl,H5⟩:=h.at hd;have hn:=hd.hn;have j8:=hd.n1;have k2:=hd.k6;have k3:=hd.k1;have k4:=H5.fcap.1;have H8:=H5.fcap.2;have k5:=H5.cap.1;have H9:=H5.cap.2;have f9:fc<=9223372036854775807:=by unfold maxLen at H8;omega
 have f8:cap<=9223372036854775807:=by unfold maxLen at H9;omega
 obtain⟨S,hS⟩:=Nm (st0 d);have g9:=Kh hS;have d6:dAgg k (st0 d) fb fo fc b off cap n=.agg #[.int .i64 (k:Int),.int .i64 (S:Int),.slice (some ⟨fb,fo,none⟩) n fc,.slice (some ⟨b,off,none⟩) n cap]:=by rw[hS];rfl
 rw[d6]at H0⊢;obtain⟨a1,b4,H6,d4⟩:=pF w #[.int .i64 (k:Int),.int .i64 (S:Int),.slice (some ⟨fb,fo,none⟩) n fc,.slice (some ⟨b,off,none⟩) n cap] #[.int .i64 0,.int .i64 0,.slice none 0 0,.slice none 0 0] 37;obtain⟨wA,c4⟩:=Nm ((w.alloc (.cells #[.int .i64 (k:Int),.int .i64 (S:Int),.slice (some ⟨fb,fo,none⟩) n fc,.slice (some ⟨b,off,none⟩) n cap] 37)).alloc (.cells #[.int .i64 0,.int .i64 0,.slice none 0 0,.slice none 0 0] 37));rw[<-c4]at a1 b4 H6 d4;obtain⟨c0,c1,c2,c3⟩:=zP a1;obtain⟨P,hP⟩:=Nm w.heap.size;obtain⟨Q,hQ⟩:=Nm (w.heap.size+1);have i2:=Kh hP;have i0:Hid (Q=P+1):=Kh (by omega);have l2:P<Q:=by omega
 have k8:Q<wA.heap.size:=by omega
 have l1:w.heap.size<=P:=by omega
 have g4:B<=wA.heap.size:=by omega
 rw[<-hQ]at b4;rw[<-hP]at a1 c0 c1 c2 c3 hB;obtain⟨j2,j1,i6,g5⟩:=K4 a1 b4 H6 c4;have j3:=Kh (H5.kept H6 (by simp));have HN:=Kh hn;have HD:=Kh hd;have e7:=Kh (rR B wA _ d g4 (H0.kept H6 (by simp)));have g7:=Kh (lG hd h5);clear a1 b4 H6 c4 H5 hn hd h H0 d6 H8 H9 hS d4 hP hQ;go_enter Try.func68,Try.ntmps68;go_upto_region 1 with fail;rw[<-g5.out,<-i2.out,<-i0.out];go_wp2_with fail;refine e7.out.mono ?_;rintro e w1 ⟨rfl,H4⟩;rw[g7.out];have j7:=H4.size;have i7:=Kh H4;have H3:=Kh (zB j2.out H4);have c9:=Kh (zB j1.out H4);have e9:=Kh (qBJ B w1 P d n k S fb fo fc b off cap RB RO RC g9.out h5 ⟨H3.out,j3.out.kept H4 (by simp)⟩);obtain⟨d0,d1,d2,d3⟩:=zP H3.out;clear H4 e7 c0 c1 c2 c3;go_wp2_with fail;refine e9.out.mono ?_;rintro e w2 ⟨v2,sa,sc,rfl,⟨o,hs,sf,cf,sn,cn,rfl,ho,H1⟩,h3,b9⟩;clear e9 d0 d1 d2 d3;obtain⟨h6,g0⟩:=xZ HD.out;obtain⟨l,hl⟩:=Nm (yH d k);have HL:=Kh hl;rw[<-hl]at h3 h6 g0⊢;have g1:=h6.hd.1;obtain⟨gl,rfl,k0,j9,a2⟩:=yY h3 g1;obtain⟨m,hm⟩:=Nm (wG d k);rw[<-hm]at H1;have HM:=Kh hm;have a6:(wG d k).start=0:=rfl;have b0:(wG d k).letters=k:=HD.out.hk;rw[<-hm]at a6 b0;rw[<-hm,a6,b0];obtain⟨j4,c8,a4,i9,i4,i5⟩:=K6 a2 b9 h6 H1 a6 b0;have j6:=b9.size;obtain⟨FL,c6⟩:=Nm m.final.length;obtain⟨NL,c5⟩:=Nm m.next.length;rw[<-c6,<-c5];have i8:=Kh c6;have i3:=Kh c5;clear hl h3 a2 b9 h6 hm a6 b0 H1 c6 c5;obtain⟨w3,b6⟩:=Nm (w2.alloc (.cells #[.int .i64 (k:Int),.int .i64 0,.slice sf FL cf,.slice sn NL cn] 37));obtain⟨T,hT⟩:=Nm w2.heap.size;have H7:=Ga w2 (.cells #[.int .i64 (k:Int),.int .i64 0,.slice sf FL cf,.slice sn NL cn] 37) none;have a0:=heap_alloc_new w2 (.cells #[.int .i64 (k:Int),.int .i64 0,.slice sf FL cf,.slice sn NL cn] 37);rw[<-b6]at H7 a0;rw[<-hT]at a0;obtain⟨b5,j0,g6,g8⟩:=K4 H7 a0 b6 hT;have j5:=H7.size;have k7:=zR a0;have k9:Q<T:=by omega
 have l0:P+1<w3.heap.size:=by omega
 obtain⟨d0,d1,d2,d3⟩:=zP (zB (zB H3.out c8.out) H7);clear H7 a0 b6 hT;go_upto_region 4 with fail;rw[<-g6.out,<-g8.out];go_wp2_with (first|(at_make;refine qV rfl _ _ _ rfl yI rfl .i64 .i64 _ _ n rfl rfl rfl rfl ?b1 ?b2 ?_;(case b1=>omega);(case b2=>(unfold maxLen;omega));intro w4 h0 e5 b8)|fail);obtain⟨G,hG⟩:=Nm w3.heap.size;rw[<-hG]at h0 b8⊢;obtain⟨f5,e8,c7⟩:=K3 h0 e5 hG;have l3:T<G:=by omega
 clear h0 e5 hG d0 d1 d2 d3
 go_loopg [8,32] n (fun gh a7 i wr=>∃q:Nat,gh+q=n/\i=.int .i64 q/\Arr wr G 3 (ints (kQ n q))/\w3.grownBy wr none)
 case atStart=>exact⟨0,rfl,rfl,by simpa [kQ,qW] using f5.out,e8.out⟩
 clear f5 e8;obtain⟨q,hg,rfl,h0,h4⟩:=hrel;obtain⟨HG,HA,a3⟩:=K3 hg h0 h4;clear hg;by_cases hq:q<n
 ·have f7:(q:Int)<n:=by omega
  have cgk:=h0.int q (by rw[qR (by omega)];exact hq);have fgk:=h0.frozen q;have HS:=Kh (aR hq);clear h0 h4;go_wp2;go_roundg (n-(q+1))
  case measure=>have:=HG.out;omega
  refine⟨q+1,by omega,by go_num,?_,zC a3.out (zG wr ⟨G,q,none⟩ _) (fun q e=>by have h7:G=q:=Oj e;have:=c7.out;omega)⟩;rw[<-HS.out];exact HA.out.int_set q (by rw[qR (by omega)];exact hq) (-1)
 have d7:q=n:=by have:=HG.out;omega
 have HF:Hid (kQ n q=tS n (l.take 0)):=Kh (by rw[d7,List.take_zero,fX];simp[kQ]);rw[HF.out]at HA;clear d7 h0 h4 HG;obtain⟨w5,rfl⟩:=Nm (wr:World);go_wp2
 go_loopg [9,10,41] l.length (fun gh a8 a9 i wr=>∃q:Nat,gh+q=l.length/\i=.int .i64 q/\Arr wr G 3 (ints (tS n (l.take q)))/\w3.grownBy wr none)
 case atStart=>exact⟨0,rfl,rfl,HA.out,a3.out⟩
 clear HA a3 HF;obtain⟨q,hg,rfl,h0,h4⟩:=hrel;obtain⟨HG,HA,a3⟩:=K3 hg h0 h4;clear hg;by_cases hq:q<l.length
 ·have f7:(q:Int)<l.length:=by omega
  have cl:=((j4.out.kept b5.out (by simp)).kept h4 (by simp)).nat q hq;have b7:l.getD q 0<n:=a4.out.lt _ (by rw[zN hq];exact List.getElem_mem _);have a5:l.take (q+1)=l.take q++[l.getD q 0]:=yF hq
  have h9:l.getD q 0 ∉ l.take q:=by
   have h1:=a4.out.nd;have h2:(l.take (q+1)).Nodup:=h1.sublist (List.take_sublist _ _);rw[a5,List.nodup_append]at h2;exact fun hm=>h2.2.2 _ hm _ (by simp) rfl
  obtain⟨s,hs⟩:=Nm (l.getD q 0);rw[<-hs]at cl b7 a5 h9;have f6:(s:Int)<n:=(by omega);have cgk:=h0.int s (by rw[vJ];exact b7);have fgk:=h0.frozen s
  have HS:Hid ((tS n (l.take q)).set s (q:Int)=tS n (l.take (q+1))):=Kh (by
   have:=fW (n:=n) h9;rw[List.length_take,Nat.min_eq_left (by omega)]at this
   rw[this,a5])
  clear h0 h4 a5 h9 hs;go_wp2;go_roundg (l.length-(q+1))
  case measure=>have:=HG.out;omega
  refine⟨q+1,by omega,by go_num,?_,zC a3.out (zG wr ⟨G,s,none⟩ _) (fun q e=>by have h7:G=q:=Oj e;have:=c7.out;omega)⟩;rw[<-HS.out];exact HA.out.int_set s (by rw[vJ];exact b7) (q:Int)
 have d8:q=l.length:=by have:=HG.out;omega
 have d9:l.take q=l:=by rw[d8];exact List.take_length
 rw[d9]at HA h0;have i1:=Kh h0;have h8:=Kh h4;clear d8 d9 h0 HA HG h4;obtain⟨e0,e1,e2,e3⟩:=zP (zB j0.out h8.out);have H2:=zB (zB (zB c9.out c8.out) b5.out) h8.out;obtain⟨q0,q1,q2,q3⟩:=zP H2;have f0:=zA H2 0;have f1:=zA H2 1;have f2:=zA H2 2;have f3:=zA H2 3;have f4:=Kh H2;clear H2;go_wp2;obtain⟨e6,b3⟩:=rT f4.out (.int .i64 (k:Int)) (.int .i64 0) (.slice sf FL cf) (.slice sn NL cn);obtain⟨wz,d5⟩:=Nm ((((wr.setCell ⟨Q,0,none⟩ (.int .i64 (k:Int))).setCell ⟨Q,1,none⟩ (.int .i64 0)).setCell ⟨Q,2,none⟩ (.slice sf FL cf)).setCell ⟨Q,3,none⟩ (.slice sn NL cn));rw[<-d5]at e6 b3⊢;clear d5;obtain⟨r0,r1,r2,r3⟩:=zP e6;clear e0 e1 e2 e3 q0 q1 q2 q3 f0 f1 f2 f3;refine bodyPost_ret (v:=.tuple #[.agg #[.int .i64 (k:Int),.int .i64 0,.slice sf FL cf,.slice sn NL cn],.slice (some ⟨G,0,none⟩) n n]) (by simp[results,Try.results68,go_sem,r0,r1,r2,r3]) rfl ?_;have g2:w.grownBy wz none:=zC (zC (zC (zC (zC i6.out i7.out) c8.out) b5.out) h8.out) b3 (fun k e=>by have h7:Q=k:=Oj e;omega);have g3:=((i9.out.grow b5.out).grow h8.out).far b3 f4.out (by omega);have e4:wG d k=m:=HM.out.symm;refine⟨_,G,rfl,⟨o,hs,sf,cf,sn,cn,?_,by omega,by rw[e4];exact g3⟩,by have:=c7.out;omega,?_,g2⟩
 ·rw[e4,i4.out,i5.out,i8.out,i3.out]
 rw[<-HL.out];exact i1.out.kept b3 (fun e=>by have h7:Q=G:=Oj e;omega)
end Go.Proofs.Ytobakifdllameaa
namespace Go.Proofs.Ytobakifdllameaa
def mM (d:DfaV)(p:List Nat)(q x:Nat):List Nat:=(p.getD q 0::(List.range x).map fun a=>p.getD (nx d q a) 0)++List.replicate (6-x) 0
theorem oV {d:DfaV}{p:List Nat}{q x:Nat}(h:x<=6):(mM d p q x).length=7:=by simp[mM];omega
theorem qFN {d:DfaV}{p:List Nat}{q x:Nat}(h:x<6):(mM d p q x).set (1+x) (p.getD (nx d q x) 0)=mM d p q (x+1):=by
 unfold mM;rw[List.set_append_right _ _ (by simp;omega),List.range_succ,List.map_append,show 6-x=(6-(x+1))+1 by omega,List.replicate_succ];simp[Nat.add_comm]
theorem qJI {d:DfaV}{p:List Nat}{q x N:Nat}(h:∀c∈p,c<N)(hN:0<N):∀y∈mM d p q x,y<N:=by
 intro y hy;rcases List.mem_append.1 hy with hy|hy
 ·rcases List.mem_cons.1 hy with rfl|hy
  ·exact qC h hN
  obtain⟨a,_,rfl⟩:=List.mem_map.1 hy;exact qC h hN
 rw[List.mem_replicate]at hy;omega
theorem qFO {d:DfaV}{p:List Nat}{q q' k:Nat}:mM d p q k=mM d p q' k↔p.getD q 0=p.getD q' 0/\∀a,a<k->p.getD (nx d q a) 0=p.getD (nx d q' a) 0:=by
 unfold mM;constructor
 ·intro h
  have h:=List.append_cancel_right h;rw[List.cons.injEq,List.map_inj_left]at h;exact⟨h.1,fun a ha=>h.2 a (List.mem_range.2 ha)⟩
 rintro ⟨h1,h2⟩;rw[h1,List.map_congr_left (fun a ha=>h2 a (List.mem_range.1 ha))]
def sigL (d:DfaV)(k:Nat)(p:List Nat):List (List Nat):=(List.range p.length).map fun q=>mM d p q k
theorem mV (d:DfaV)(k:Nat)(p:List Nat):(sigL d k p).length=p.length:=by simp[sigL]
theorem dG {d:DfaV}{k:Nat}{p:List Nat}{q:Nat}(h:q<p.length):(sigL d k p)[q]'(by rw[mV];exact h)=mM d p q k:=by simp[sigL]
theorem qFL {d:DfaV}{n k:Nat}(hd:VD d n k){p:List Nat}(hp:p.length=n)(hn:Norm p):numb (sigL d k p)=uV d p k:=by
 have h0:∀c∈p,c<n:=by have:=oZ hn;rwa [hp]at this
 have hl:=mV d k p;refine dV (iU _) (mE hn k) ⟨by rw[yZ,hl,xK],fun i j hi hj=>?_⟩;rw[yZ,hl]at hi hj;rw[pT (by omega) (by omega),dG hi,dG hj,qFO,qG hd hp h0 (by omega) (by omega) k (Nat.le_refl _)]
theorem qDX {α:Type}[DecidableEq α]{l:List α}{k:Nat}(hk:k<l.length):(numb l).getD k 0=if l[k]∈yM (l.take k) then (yM (l.take k)).idxOf l[k] else (yM (l.take k)).length:=by
 rw[zN (by rw[yZ];exact hk),qO hk,<-aG hk,List.take_succ_eq_append_getElem hk,tP];by_cases h:l[k]∈yM (l.take k)
 ·rw[tE h,if_pos h]
 rw[wX h,if_neg h,List.idxOf_append,if_neg h];simp
theorem iZ {α:Type}[DecidableEq α]{l:List α}{k:Nat}(hk:k<l.length):yM (l.take (k+1))=xY (yM (l.take k)) l[k]:=by
 rw[List.take_succ_eq_append_getElem hk,tP]
theorem qKS {α:Type}[DecidableEq α](l:List α):cls (numb l)=(yM l).length:=by
 unfold cls numb;rw[fB _ _ (fun x hx y _ h=>aQ (xR.2 hx) h),List.length_map]
def vV (d:DfaV)(q:Nat):List Nat:=(List.range q).map fun i=>if d.final.getD i false=d.final.getD 0 false then 0 else 1
def fstC (d:DfaV)(q:Nat):Nat:=if (vV d q).all (· == 0) then 1 else 2
def fstF (d:DfaV)(n q:Nat):List Nat:=vV d q++List.replicate (n-q) 0
theorem mZ {d:DfaV}{n q:Nat}(h:q<=n):(fstF d n q).length=n:=by simp[fstF,vV];omega
theorem qHQ {d:DfaV}{n q:Nat}(h:q<n)(e:d.final.getD q false=d.final.getD 0 false):fstF d n (q+1)=fstF d n q/\fstC d (q+1)=fstC d q:=by
 have h1:vV d (q+1)=vV d q++[0]:=by
  simp only[vV,List.range_succ,List.map_append,List.map_cons,List.map_nil,if_pos e]
 constructor
 ·unfold fstF
  rw[h1,show n-q=(n-(q+1))+1 by omega,List.replicate_succ,List.append_assoc];rfl
 unfold fstC;rw[h1,List.all_append];simp
theorem qHR {d:DfaV}{n q:Nat}(h:q<n)(e:d.final.getD q false≠d.final.getD 0 false):fstF d n (q+1)=(fstF d n q).set q 1/\fstC d (q+1)=2:=by
 have h1:vV d (q+1)=vV d q++[1]:=by
  simp only[vV,List.range_succ,List.map_append,List.map_cons,List.map_nil,if_neg e]
 have hl:(vV d q).length=q:=by simp[vV]
 constructor
 ·unfold fstF
  rw[h1,List.set_append_right _ _ (by omega),hl,Nat.sub_self,show n-q=(n-(q+1))+1 by omega,List.replicate_succ,List.set_cons_zero,List.append_assoc];rfl
 unfold fstC;rw[h1,List.all_append];simp
theorem qHP {d:DfaV}{n k:Nat}(hd:VD d n k):vV d n=lL d/\fstC d n=cls (lL d):=by
 have hl:(vV d n).length=n:=by simp[vV]
 have hg:∀i,i<n->(vV d n).getD i 0=if d.final.getD i false=d.final.getD 0 false then 0 else 1:=fun i hi=>by
  rw[zN (by omega)];simp[vV]
 have h8:∀i j,i<n->j<n->((vV d n).getD i 0=(vV d n).getD j 0↔(lL d).getD i 0=(lL d).getD j 0):=fun i j hi hj=>by
  rw[hg i hi,hg j hj,iS hd hi hj];cases d.final.getD i false<;>cases d.final.getD j false<;>cases d.final.getD 0 false<;>simp
 have H4:=oX d;have h9:=hd.n1
 have h6:Norm (vV d n):=by
  unfold Norm;have h0:(vV d n).getD 0 0=0:=by rw[hg 0 (by omega),if_pos rfl]
  refine List.ext_getElem (yZ _) fun i h1 h2=>?_;have hi:i<n:=by omega
  rw[qO h2]
  have key:∀m,0<m->m<=n->yM ((vV d n).take m)=if (∃j,j<m/\(vV d n).getD j 0=1) then [0,1] else [0]:=by
   intro m hm H7
   induction m with
   | zero=>omega
   | succ m ih =>
    have H0:m<(vV d n).length:=(by omega);rw[iZ H0,<-zN (d:=0) H0];have h7:(vV d n).getD m 0=0\/(vV d n).getD m 0=1:=by rw[hg m (by omega)];split<;>simp
    by_cases hm0:m=0
    ·subst hm0
     rw[h0]
     have:¬∃j,j<0+1/\(vV d n).getD j 0=1:=by
      rintro ⟨j,hj,e⟩;have:j=0:=by omega
      subst this;omega
     rw[if_neg this];rfl
    rw[ih (by omega) (by omega)];by_cases hex:∃j,j<m/\(vV d n).getD j 0=1
    ·have h5:∃j,j<m+1/\(vV d n).getD j 0=1:=hex.imp fun j h=>⟨by omega,h.2⟩
     rw[if_pos hex,if_pos h5];rcases h7 with e|e<;>rw[e]<;>rfl
    rw[if_neg hex];rcases h7 with e|e
    ·have h5:¬∃j,j<m+1/\(vV d n).getD j 0=1:=by
      rintro ⟨j,hj,e2⟩;rcases Nat.lt_succ_iff_lt_or_eq.1 hj with hj|rfl
      ·exact hex ⟨j,hj,e2⟩
      ·omega
     rw[if_neg h5,e];rfl
    rw[if_pos ⟨m,by omega,e⟩,e];rfl
  have hk:=key n (by omega) (Nat.le_refl _);rw[show (vV d n).take n=vV d n by rw[List.take_of_length_le (by omega)]]at hk;rw[hk];have h7:(vV d n).getD i 0=0\/(vV d n).getD i 0=1:=by rw[hg i hi];split<;>simp
  rw[zN h2]at h7;rcases h7 with e|e
  ·rw[e];split<;>rfl
  rw[e,if_pos ⟨i,hi,by rw[zN h2,e]⟩];rfl
 have H1:vV d n=lL d:=dV h6 (fZ d) ⟨by rw[hl,H4,hd.hn],fun i j hi hj=>h8 i j (by omega) (by omega)⟩;refine⟨H1,?_⟩;rw[<-H1];unfold fstC;by_cases ha:(vV d n).all (· == 0)=true
 ·rw[if_pos ha]
  have:vV d n=List.replicate n 0:=by
   refine List.eq_replicate_iff.2 ⟨hl,fun x hx=>?_⟩;simpa using List.all_eq_true.1 ha x hx
  rw[this]
  have h1:(yM (List.replicate n 0)) ⊆ [0]:=fun x hx=>by
   have:=xR.1 hx;rw[List.mem_replicate]at this;simp[this.2]
  have h2:=(tW (List.replicate n 0)).length_le_of_subset h1;have h3:=cM (p:=List.replicate n 0) (by simp;omega);unfold cls at h3⊢;simp at h2;omega
 rw[if_neg ha]
 have h1:yM (vV d n) ⊆ [0,1]:=fun x hx=>by
  obtain⟨i,_,rfl⟩:=List.mem_map.1 (xR.1 hx)
  split<;>simp
 have h2:=(tW (vV d n)).length_le_of_subset h1
 have h9:∃x∈vV d n,x≠0:=by
  apply Classical.byContradiction;intro H5
  exact ha (List.all_eq_true.2 fun x hx=>by
   have:x=0:=Classical.byContradiction fun h=>H5 ⟨x,hx,h⟩
   simp[this])
 obtain⟨x,hx,H3⟩:=h9
 have H2:x=1:=by
  obtain⟨i,_,rfl⟩:=List.mem_map.1 hx
  split at H3
  ·omega
  rename_i h;rw[if_neg h]
 have H6:0∈vV d n:=by
  rw[vV,List.mem_map];exact⟨0,List.mem_range.2 (by omega),if_pos rfl⟩
 have h3:[0,1] ⊆ yM (vV d n):=fun y hy=>by
  simp only[List.mem_cons,List.not_mem_nil,or_false]at hy;rcases hy with rfl|rfl
  ·exact xR.2 H6
  exact xR.2 (H2 ▸ hx)
 have h4:=(show [0,1].Nodup by decide).length_le_of_subset h3;unfold cls;simp at h2 h4;omega
theorem qIC {d:DfaV}{n k:Nat}(hd:VD d n k)(m:Nat):numb (sigL d k (xD d k m))=xD d k (m+1):=qFL hd (by rw[xG,hd.hn]) (tD d k m)
theorem qEN {d:DfaV}{n k:Nat}(hd:VD d n k){m:Nat}(hm:m<=n)(h:cls (xD d k (m+1))=cls (xD d k m)):xD d k (m+1)=xH d k:=by
 have e:uV d (xD d k m) k=xD d k m:=Classical.byContradiction fun hne=>by
  have:=pS hd (by rw[xG,hd.hn]) (tD d k m) hne;rw[xD]at h;omega
 rw[qX (by rw[hd.hn];exact hm) e,xD,e]
theorem qEO {d:DfaV}{n k:Nat}(hd:VD d n k){m:Nat}(h:cls (xD d k (m+1))≠cls (xD d k m)):cls (xD d k m)<cls (xD d k (m+1)):=by
 have e:uV d (xD d k m) k≠xD d k m:=fun e=>h (by rw[xD,e]);exact pS hd (by rw[xG,hd.hn]) (tD d k m) e
theorem qKU {d:DfaV}{n k:Nat}(hd:VD d n k)(m:Nat):cls (xD d k m)<=n:=by
 have:=jF (xD d k m)
 rwa [xG,hd.hn]at this
open Go.Maps Go.RowKit
theorem iL:Try.prog.underlying 130=some (.array 7 3):=by kernel_rfl
theorem bO:Try.prog.underlying 128=some (.map 130 3):=by kernel_rfl
theorem qFM:Keyed Try.prog 130:=Keyed.of_law (deep_law_laid (m:=5) (by kernel_rfl) (by decide) (of_decide_eq_true (by kernel_rfl)) (by kernel_rfl) (by kernel_rfl))
theorem qNX {x:Nat}(hx:x<4611686018427387904):(Lit.int .i64 (x:Int)).wf=true:=eH (x:=(x:Int)) ⟨by omega,by omega⟩
theorem pW (d:Nat){x:Nat}(hx:x<4611686018427387904):Try.prog.keyLits (d+1) 3 [.int .i64 (x:Int)]=some [.int .i64 (x:Int)]:=by
 unfold Program.keyLits;rw[uX];simp[qNX hx]
def sigV (L:List Nat):Value:=.agg #[.int .i64 ((L.getD 0 0:Nat):Int),.int .i64 ((L.getD 1 0:Nat):Int),.int .i64 ((L.getD 2 0:Nat):Int),.int .i64 ((L.getD 3 0:Nat):Int),.int .i64 ((L.getD 4 0:Nat):Int),.int .i64 ((L.getD 5 0:Nat):Int),.int .i64 ((L.getD 6 0:Nat):Int)]
def qLL (L:List Nat):Prop:=L.length=7/\∀x∈L,x<4611686018427387904
theorem bP:Try.prog.cellsOf 130=7:=by kernel_rfl
theorem qHM:Try.prog.cellsOf 3=1:=by kernel_rfl
theorem qJH {x0 x1 x2 x3 x4 x5 x6:Nat}(h0:x0<4611686018427387904)(h1:x1<4611686018427387904)(h2:x2<4611686018427387904)(h3:x3<4611686018427387904)(h4:x4<4611686018427387904)(h5:x5<4611686018427387904)(h6:x6<4611686018427387904):(keyOf Try.prog 130 (.agg #[.int .i64 (x0:Int),.int .i64 (x1:Int),.int .i64 (x2:Int),.int .i64 (x3:Int),.int .i64 (x4:Int),.int .i64 (x5:Int),.int .i64 (x6:Int)])).isSome=true:=by
 have hk:Try.prog.keyType 130=true:=by kernel_rfl
 unfold keyOf;rw[iL];simp only[hk,Bool.true_and]
 have hf:(Value.agg #[.int .i64 (x0:Int),.int .i64 (x1:Int),.int .i64 (x2:Int),.int .i64 (x3:Int),.int .i64 (x4:Int),.int .i64 (x5:Int),.int .i64 (x6:Int)]).formed Try.prog 130=true:=by
  simp[Value.formed,iL,bP]
 rw[if_pos hf]
 have hl:Try.prog.keyLits (Try.prog.types.size+1) 130 (Value.agg #[.int .i64 (x0:Int),.int .i64 (x1:Int),.int .i64 (x2:Int),.int .i64 (x3:Int),.int .i64 (x4:Int),.int .i64 (x5:Int),.int .i64 (x6:Int)]).cells.toList=some [.int .i64 (x0:Int),.int .i64 (x1:Int),.int .i64 (x2:Int),.int .i64 (x3:Int),.int .i64 (x4:Int),.int .i64 (x5:Int),.int .i64 (x6:Int)]:=by
  have hz:Try.prog.types.size=(Try.prog.types.size-1)+1:=by kernel_rfl
  rw[hz];unfold Program.keyLits;rw[iL];simp[Value.cells,bP,qHM,List.range,List.range.loop,pW _ h0,pW _ h1,pW _ h2,pW _ h3,pW _ h4,pW _ h5,pW _ h6]
 rw[hl];rfl
theorem dF:KeyK 128 130 qLL sigV where
 key:=qFM
 und:=bO
 of:=fun L h=>by
  have hg:∀i,L.getD i 0<4611686018427387904:=fun i=>by
   by_cases hi:i<L.length
   ·rw[zN hi];exact h.2 _ (List.getElem_mem hi)
   ·rw[List.getD,List.getElem?_eq_none (by omega)];simp
  exact qJH (hg 0) (hg 1) (hg 2) (hg 3) (hg 4) (hg 5) (hg 6)
 inj:=fun L M hL hM e=>by
  simp only[sigV,Value.agg.injEq]at e
  have e:=congrArg Array.toList e
  simp only[List.cons.injEq,Value.int.injEq,true_and,and_true]at e
  refine List.ext_getElem (by rw[hL.1,hM.1]) fun i h1 h2=>?_
  rw[<-zN (d:=0) h1,<-zN (d:=0) h2]
  have:i<7:=by rw[<-hL.1];exact h1
  match i,this with
  | 0,_=>omega
  | 1,_=>omega
  | 2,_=>omega
  | 3,_=>omega
  | 4,_=>omega
  | 5,_=>omega
  | 6,_=>omega
end Go.Proofs.Ytobakifdllameaa
