/- Part 15 of the proof. -/
import Derived.Test.YtjfdomfendbhfaaQf14
set_option linter.unusedVariables false
set_option linter.unusedSimpArgs false
set_option maxRecDepth 100000
set_option maxHeartbeats 16000000
namespace Go.Proofs.Ytjfdomfendbhfaa
open Go.RowKit Go.Maps
def mN (m:List Bool):List Nat:=m.map fun b=>if b=true then 1 else 0
def mT (m:List Bool):ByteArray:=txtT (mN m)
theorem rD (m:List Bool):(mN m).length=m.length:=by simp[mN]
theorem mN_get {m:List Bool}{i:Nat}(hi:i<m.length):(mN m).getD i 0=if m.getD i false=true then 1 else 0:=by
 rw[zG (by rw[rD];exact hi),zG hi];simp[mN]
theorem qJE (m:List Bool):∀ x∈mN m,x<256:=by
 intro x hx;simp only[mN,List.mem_map]at hx;obtain⟨b,_,rfl⟩:=hx
 split<;>omega
theorem qIM:∀ {m n:List Bool},mN m=mN n->m=n
 | [],[],_=>rfl
 | [],y::n,h=>by simp[mN]at h
 | x::m,[],h=>by simp[mN]at h
 | x::m,y::n,h=>by
  simp only[mN,List.map_cons,List.cons.injEq]at h
  have h2:m=n:=qIM (by simpa [mN] using h.2)
  have h1:=h.1
  cases x<;>cases y<;>simp_all
theorem qAC (m:List Bool):(mT m).size=m.length:=by rw[mT,nF,rD]
theorem key_mT {n:Nat}(h:n<=400):KeyK 129 9 (fun m:List Bool=>m.length=n) (fun m=>.string (mT m)) where
 key:=iC
 und:=nR
 of:=fun a ha=>by rw[Go.WideMaps.keyOf_string_mk kT (by rw[qAC,ha];unfold maxLen;omega)];rfl
 inj:=fun a b ha hb e=>qIM (qGA (qJE a) (qJE b) (by simpa [mT] using e))
def cval (c:ClaV):List Value:=[.string (mT c.m),.int .i64 c.yes,.int .i64 c.no]
def tZ (l:List ClaV):List Value:=l.flatMap cval
theorem iH (l:List ClaV)(c:ClaV):tZ (l++[c])=tZ l++cval c:=by simp[tZ]
theorem pX (c:ClaV)(l:List ClaV):tZ (c::l)=.string (mT c.m)::.int .i64 c.yes::.int .i64 c.no::tZ l:=rfl
theorem pW:∀ (l:List ClaV) (i:Nat) (h:i<l.length),(tZ l)[i * 3]?=some (.string (mT l[i].m))/\(tZ l)[i * 3+1]?=some (.int .i64 l[i].yes)/\(tZ l)[i * 3+2]?=some (.int .i64 l[i].no)
 | [],i,h=>by simp at h
 | x::l,0,_=>⟨rfl,rfl,rfl⟩
 | x::l,i+1,h=>by
  have h1:=pW l i (by simpa using h)
  rw[pX,show (i+1) * 3=i * 3+1+1+1 by omega,show i * 3+1+1+1+1=(i * 3+1)+1+1+1 by omega,show i * 3+1+1+1+2=(i * 3+2)+1+1+1 by omega]
  simpa using h1
theorem dC:∀ (l:List ClaV) (i:Nat) (y:Int),i<l.length->(tZ l).set (i * 3+1) (.int .i64 y)=tZ (l.set i ⟨(l.getD i default).m,y,(l.getD i default).no⟩)
 | [],i,y,h=>by simp at h
 | x::l,0,y,_=>rfl
 | x::l,i+1,y,h=>by
  have h1:=dC l i y (by simpa using h)
  rw[pX,show (i+1) * 3+1=(i * 3+1)+1+1+1 by omega]
  simp only[List.set_cons_succ,List.getD_cons_succ,pX]
  rw[h1]
theorem qAN:∀ (l:List ClaV) (i:Nat) (y:Int),i<l.length->(tZ l).set (i * 3+2) (.int .i64 y)=tZ (l.set i ⟨(l.getD i default).m,(l.getD i default).yes,y⟩)
 | [],i,y,h=>by simp at h
 | x::l,0,y,_=>rfl
 | x::l,i+1,y,h=>by
  have h1:=qAN l i y (by simpa using h)
  rw[pX,show (i+1) * 3+2=(i * 3+2)+1+1+1 by omega]
  simp only[List.set_cons_succ,List.getD_cons_succ,pX]
  rw[h1]
theorem qAJ:ElemN Try.prog 96 99 3 (.agg #[.string ⟨#[]⟩,.int .i64 0,.int .i64 0]) 32:=⟨by kernel_rfl,by kernel_rfl,by rfl,by decide⟩
structure ClsO (w:World)(g off:Nat)(l:List ClaV):Prop where
 lt:g<w.heap.size
 m:∀ i,i<l.length->w.cell? ⟨g,off+i * 3,none⟩=some (.string (mT (l.getD i default).m))
 y:∀ i,i<l.length->w.cell? ⟨g,off+i * 3+1,none⟩=some (.int .i64 (l.getD i default).yes)
 n:∀ i,i<l.length->w.cell? ⟨g,off+i * 3+2,none⟩=some (.int .i64 (l.getD i default).no)
theorem ClsO.of_block {w w':World}{g off:Nat}{l:List ClaV}(h:ClsO w g off l)(hb:w'.heap[g]?=w.heap[g]?)(hs:w.heap.size<=w'.heap.size):ClsO w' g off l :=
 ⟨Nat.lt_of_lt_of_le h.lt hs,fun i hi=>(World.cell?_of_block hb).trans (h.m i hi),fun i hi=>(World.cell?_of_block hb).trans (h.y i hi),fun i hi=>(World.cell?_of_block hb).trans (h.n i hi)⟩
def ClsX (X:Nat->Prop)(w:World)(v:Value)(l:List ClaV):Prop :=
 (∃ a cap,v=.slice a 0 cap/\l=[])\/∃ b off cap,v=.slice (some ⟨b,off,none⟩) l.length cap/\X b/\l.length<=cap/\cap<=maxLen/\ClsO w b off l
section
variable {X:Nat->Prop} {w w':World} {v:Value} {l:List ClaV}
theorem ClsX.kept (h:ClsX X w v l)(hk:vR X w w')(hs:w.heap.size<=w'.heap.size):ClsX X w' v l:=by
 rcases h with h|⟨b,off,cap,h1,h2,h3,h4,h5⟩
 ·exact .inl h
 ·exact .inr ⟨b,off,cap,h1,h2,h3,h4,h5.of_block (hk b h2) hs⟩
theorem ClsX.mono {X':Nat->Prop}(h:ClsX X w v l)(hX:∀ q,X q->X' q):ClsX X' w v l:=by
 rcases h with h|⟨b,off,cap,h1,h2,h3⟩
 ·exact .inl h
 ·exact .inr ⟨b,off,cap,h1,hX b h2,h3⟩
theorem ClsX.grow (h:ClsX X w v l)(hg:w.grownBy w' none):ClsX X w' v l:=by
 rcases h with h|⟨b,off,cap,h1,h2,h3,h4,h5⟩
 ·exact .inl h
 ·exact .inr ⟨b,off,cap,h1,h2,h3,h4,h5.of_block (hg.block _ h5.lt (by simp)) hg.size⟩
theorem ClsX.shape (h:ClsX X w v l):∃ a c,v=.slice a l.length c:=by
 rcases h with ⟨a,c,rfl,rfl⟩|⟨b,off,cap,rfl,_⟩
 ·exact⟨a,c,rfl⟩
 ·exact⟨_,_,rfl⟩
theorem ClsX.len_le (h:ClsX X w v l):l.length<=maxLen:=by
 rcases h with ⟨a,c,rfl,rfl⟩|⟨b,off,cap,rfl,h1,h2,h3,_⟩
 ·exact Nat.zero_le _
 ·omega
theorem ClsX.at_ (h:ClsX X w v l)(h0:0<l.length):∃ b off cap,v=.slice (some ⟨b,off,none⟩) l.length cap/\X b/\l.length<=cap/\cap<=maxLen/\ClsO w b off l:=by
 rcases h with ⟨a,c,rfl,rfl⟩|h
 ·simp at h0
 ·exact h
end
theorem kJ {X:Nat->Prop}{base:Nat}{w:World}{v:Value}{l:List ClaV}(h:w.ownsRow base 99 3 v l.length (tZ l))(hX:∀ k,v.ownBlock=some k->X k):ClsX X w v l:=by
 have h1:∀ g j,(⟨g,0,none⟩:Addr).add j=⟨g,j,none⟩:=fun g j=>by unfold Addr.add;split<;>simp_all
 rcases h.2 with ⟨rfl,h0⟩|⟨g,cap,cur,rfl,hb,hg,hnc,hcm,_⟩
 ·exact .inl ⟨none,0,by first|rfl|rw[h0],List.eq_nil_of_length_eq_zero h0⟩
 ·refine .inr ⟨g,0,cap,rfl,hX g rfl,hnc,hcm,zI hg,fun i hi=>?_,fun i hi=>?_,fun i hi=>?_⟩
  ·have c1:=h.cells (g:=g) rfl _ _ (pW l i hi).1
   rw[h1]at c1;rw[zG hi,Nat.zero_add];exact c1
  ·have c1:=h.cells (g:=g) rfl _ _ (pW l i hi).2.1
   rw[h1]at c1;rw[zG hi,Nat.zero_add];exact c1
  ·have c1:=h.cells (g:=g) rfl _ _ (pW l i hi).2.2
   rw[h1]at c1;rw[zG hi,Nat.zero_add];exact c1
def numC (l:List ClaV)(m:List Bool):Option Nat:=if m∈l.map ClaV.m then some ((l.map ClaV.m).idxOf m) else none
theorem numC_of_mem {l:List ClaV}{m:List Bool}(h:m∈l.map ClaV.m):numC l m=some ((l.map ClaV.m).idxOf m):=if_pos h
theorem numC_not {l:List ClaV}{m:List Bool}(h:m ∉ l.map ClaV.m):numC l m=none:=if_neg h
theorem numC_snoc {l:List ClaV}{c:ClaV}(h:c.m ∉ l.map ClaV.m):(fun q=>if q=c.m then some l.length else numC l q)=numC (l++[c]):=by
 funext q;unfold numC;rw[List.map_append,List.map_singleton];by_cases e:q=c.m
 ·subst e
  rw[if_pos rfl,if_pos (by simp),List.idxOf_append,if_neg h];simp
 ·rw[if_neg e]
  by_cases hq:q∈l.map ClaV.m
  ·rw[if_pos hq,if_pos (List.mem_append_left _ hq),List.idxOf_append,if_pos hq]
  ·rw[if_neg hq,if_neg (fun h=>by
    rcases List.mem_append.1 h with h|h
    ·exact hq h
    ·simp at h;exact e h)]
theorem qEU {l:List ClaV}{n:Nat}{c:ClaV}(hn:n<l.length)(hm:c.m=(l.getD n default).m):numC (l.set n c)=numC l:=by
 have:(l.set n c).map ClaV.m=l.map ClaV.m:=by
  rw[List.map_set,hm,zG hn];refine List.ext_getElem (by simp) fun i h1 h2=>?_;rw[List.getElem_set]
  split
  ·rename_i e;subst e;simp
  ·rfl
 unfold numC;rw[this]
end Go.Proofs.Ytjfdomfendbhfaa
namespace Go.Proofs.Ytjfdomfendbhfaa
open Go.RowKit Go.Maps
def qIC (c:ChoV):List Value:=[.int .i64 c.p,.int .i64 c.y,.int .i64 c.n]
def uB (l:List ChoV):List Value:=l.flatMap qIC
theorem dE (l:List ChoV)(c:ChoV):uB (l++[c])=uB l++qIC c:=by simp[uB]
theorem lC:∀ (l:List ChoV) (i:Nat) (h:i<l.length),(uB l)[i * 3]?=some (.int .i64 l[i].p)/\(uB l)[i * 3+1]?=some (.int .i64 l[i].y)/\(uB l)[i * 3+2]?=some (.int .i64 l[i].n)
 | [],i,h=>by simp at h
 | x::l,0,_=>⟨rfl,rfl,rfl⟩
 | x::l,i+1,h=>by
  have h1:=lC l i (by simpa using h)
  rw[show uB (x::l)=.int .i64 x.p::.int .i64 x.y::.int .i64 x.n::uB l from rfl,show (i+1) * 3=i * 3+1+1+1 by omega,show i * 3+1+1+1+1=(i * 3+1)+1+1+1 by omega,show i * 3+1+1+1+2=(i * 3+2)+1+1+1 by omega]
  simpa using h1
theorem qFI:ElemN Try.prog 23 45 3 (.agg #[.int .i64 0,.int .i64 0,.int .i64 0]) 24:=⟨by kernel_rfl,by kernel_rfl,by rfl,by decide⟩
theorem pE {base:Nat}{w:World}{v:Value}{l:List ChoV}{B:Nat}(h:w.ownsRow base 45 3 v l.length (uB l))(hB:w.heap.size<=B):qN B w v l:=by
 have h1:∀ g j,(⟨g,0,none⟩:Addr).add j=⟨g,j,none⟩:=fun g j=>by unfold Addr.add;split<;>simp_all
 rcases h.2 with ⟨rfl,h0⟩|⟨g,cap,cur,rfl,hb,hg,hnc,hcm,_⟩
 ·exact .inl ⟨none,0,by first|rfl|rw[h0],List.eq_nil_of_length_eq_zero h0⟩
 ·refine .inr ⟨g,0,cap,rfl,Nat.lt_of_lt_of_le (zI hg) hB,hnc,hcm,zI hg,fun i hi=>?_,fun i hi=>?_,fun i hi=>?_⟩
  ·have c1:=h.cells (g:=g) rfl _ _ (lC l i hi).1
   rw[h1]at c1;rw[zG hi,Nat.zero_add];exact c1
  ·have c1:=h.cells (g:=g) rfl _ _ (lC l i hi).2.1
   rw[h1]at c1;rw[zG hi,Nat.zero_add];exact c1
  ·have c1:=h.cells (g:=g) rfl _ _ (lC l i hi).2.2
   rw[h1]at c1;rw[zG hi,Nat.zero_add];exact c1
theorem chomap_under:Try.prog.underlying 135=some (.map 45 3):=by kernel_rfl
theorem cho_keyed:Keyed Try.prog 45:=Keyed.of_law (deep_law_laid (m:=5) (by kernel_rfl) (by decide) (of_decide_eq_true (by kernel_rfl)) (by kernel_rfl) (by kernel_rfl))
def choW (c:ChoV):Value:=.agg #[.int .i64 c.p,.int .i64 c.y,.int .i64 c.n]
def qAU (c:ChoV):Prop:=(0<=c.p/\c.p<4611686018427387904)/\(0<=c.y/\c.y<4611686018427387904)/\(0<=c.n/\c.n<4611686018427387904)
theorem qDD:Try.prog.cellsOf 45=3:=by kernel_rfl
theorem cho_some {x0 x1 x2:Nat}(h0:x0<4611686018427387904)(h1:x1<4611686018427387904)(h2:x2<4611686018427387904):(keyOf Try.prog 45 (.agg #[.int .i64 (x0:Int),.int .i64 (x1:Int),.int .i64 (x2:Int)])).isSome=true:=by
 have hk:Try.prog.keyType 45=true:=by kernel_rfl
 unfold keyOf;rw[Try.underlying45];simp only[hk,Bool.true_and]
 have hf:(Value.agg #[.int .i64 (x0:Int),.int .i64 (x1:Int),.int .i64 (x2:Int)]).formed Try.prog 45=true:=by
  simp[Value.formed,Try.underlying45,qDD]
 rw[if_pos hf]
 have hl:Try.prog.keyLits (Try.prog.types.size+1) 45 (Value.agg #[.int .i64 (x0:Int),.int .i64 (x1:Int),.int .i64 (x2:Int)]).cells.toList=some [.int .i64 (x0:Int),.int .i64 (x1:Int),.int .i64 (x2:Int)]:=by
  have hz:Try.prog.types.size=(Try.prog.types.size - 1)+1:=by kernel_rfl
  rw[hz];unfold Program.keyLits;rw[Try.underlying45];simp[Value.cells,qDD,eS,uZ _ h0,uZ _ h1,uZ _ h2]
 rw[hl];rfl
theorem qHG:KeyK 135 45 qAU choW where
 key:=cho_keyed
 und:=chomap_under
 of:=fun c h=>by
  obtain⟨p,y,n⟩:=c
  obtain⟨⟨a1,a2⟩,⟨b1,b2⟩,⟨c1,c2⟩⟩:=h
  simp only at a1 a2 b1 b2 c1 c2
  have:=cho_some (x0:=p.toNat) (x1:=y.toNat) (x2:=n.toNat) (by omega) (by omega) (by omega)
  rw[Int.toNat_of_nonneg a1,Int.toNat_of_nonneg b1,Int.toNat_of_nonneg c1]at this
  exact this
 inj:=fun x y hx hy e=>by
  obtain⟨p,y',n⟩:=x
  obtain⟨p2,y2,n2⟩:=y
  simp only[choW,Value.agg.injEq]at e
  have e:=congrArg Array.toList e
  simp only[List.cons.injEq,Value.int.injEq,true_and,and_true]at e
  obtain⟨rfl,rfl,rfl⟩:=e
  rfl
def numH (l:List ChoV)(c:ChoV):Option Nat:=if c∈l then some (l.idxOf c) else none
theorem numH_of_mem {l:List ChoV}{c:ChoV}(h:c∈l):numH l c=some (l.idxOf c):=if_pos h
theorem qES {l:List ChoV}{c:ChoV}(h:c ∉ l):numH l c=none:=if_neg h
theorem numH_snoc {l:List ChoV}{c:ChoV}(h:c ∉ l):(fun q=>if q=c then some l.length else numH l q)=numH (l++[c]):=by
 funext q;unfold numH;by_cases e:q=c
 ·subst e
  rw[if_pos rfl,if_pos (by simp),List.idxOf_append,if_neg h];simp
 ·rw[if_neg e]
  by_cases hq:q∈l
  ·rw[if_pos hq,if_pos (List.mem_append_left _ hq),List.idxOf_append,if_pos hq]
  ·rw[if_neg hq,if_neg (fun h=>by
    rcases List.mem_append.1 h with h|h
    ·exact hq h
    ·simp at h;exact e h)]
theorem BoxS.rewk {B:Nat}{X:Nat->Prop}{o ty:Nat}{w0 wk wk0 w:World}{rs:List RowS}{c:Array Value}(h:BoxS B X o ty w0 wk rs c w)(hk:vR X wk0 wk)(hz:wk0.heap.size<=wk.heap.size)(hB:B<=wk0.heap.size):BoxS B X o ty w0 wk0 rs c w :=
 ⟨h.mem,h.typ,h.box,h.off,h.size,h.old,hB,h.grown,hk.trans h.kept,Nat.le_trans hz h.wk⟩
inductive BldS (w0:World)(B:Nat)(X:Nat->Prop)(o mb:Nat)(wk:World)(cs:List ChoV)(w:World):Prop
 | mk (sa:Option Addr) (cap u c:Nat) (hB:BoxS B X o 137 w0 wk (⟨B,45,.slice sa cs.length cap,cs.length,uB cs,3⟩::[]) #[.slice sa cs.length cap,.map (some mb)] w)
  (hM:MapK 45 qAU choW w mb u c (numH cs)) (hmx:¬ X mb) (hmb:w0.heap.size<=mb) (hu:u<=cs.length)
section
variable {w0 w w' wk:World} {B o mb:Nat} {X:Nat->Prop} {cs:List ChoV}
theorem BldS.facts (h:BldS w0 B X o mb wk cs w):w0.grownBy w none/\vR X wk w/\wk.heap.size<=w.heap.size/\B<=w.heap.size/\B<=wk.heap.size/\mb<w.heap.size/\o<w.heap.size:=by
 obtain⟨sa,cap,u,c,hB,hM,h0,h1,hu⟩:=h;exact⟨hB.grown,hB.kept,hB.wk,Nat.le_trans hB.base hB.wk,hB.base,hM.lt,zI hB.box⟩
theorem BldS.grow (h:BldS w0 B X o mb wk cs w)(hg:w.grownBy w' none):BldS w0 B X o mb wk cs w':=by
 obtain⟨sa,cap,u,c,hB,hM,h0,h1,hu⟩:=h;exact⟨sa,cap,u,c,hB.grow hg,hM.kept hg (by simp),h0,h1,hu⟩
theorem BldS.rebase (h:BldS w0 B X o mb wk cs w):BldS w0 B X o mb w cs w:=by
 obtain⟨sa,cap,u,c,hB,hM,h0,h1,hu⟩:=h;exact⟨sa,cap,u,c,hB.rebase,hM,h0,h1,hu⟩
theorem BldS.fresh (h:BldS w0 B X o mb wk cs w)(hg:w.grownBy w' none){Y:Nat->Prop}(hY:∀ k,Y k->w.heap.size<=k/\k<w'.heap.size):BldS w0 B (fun k=>X k\/Y k) o mb w' cs w':=by
 obtain⟨sa,cap,u,c,hB,hM,h0,h1,hu⟩:=h
 exact⟨sa,cap,u,c,hB.fresh hg hY,hM.kept hg (by simp),fun e=>by
  rcases e with e|e
  ·exact h0 e
  ·have:=(hY mb e).1
   have:=hM.lt
   omega,h1,hu⟩
theorem BldS.back {X':Nat->Prop}{wk0:World}(h:BldS w0 B X' o mb wk cs w)(hX:∀ q,X q->X' q)(hk:vR X wk0 wk)(hz:wk0.heap.size<=wk.heap.size)(hB:B<=wk0.heap.size):BldS w0 B X o mb wk0 cs w:=by
 obtain⟨sa,cap,u,c,h2,hM,h0,h1,hu⟩:=h;exact⟨sa,cap,u,c,(h2.less hX).rewk hk hz hB,hM,fun e=>h0 (hX _ e),h1,hu⟩
theorem BldS.cells (h:BldS w0 B X o mb wk cs w):∃ sa cap u c,w.heap[o]?=some (.cells #[.slice sa cs.length cap,.map (some mb)] 137 (0,0))/\w.ownsRow B 45 3 (.slice sa cs.length cap) cs.length (uB cs)/\MapK 45 qAU choW w mb u c (numH cs)/\u<=cs.length:=by
 obtain⟨sa,cap,u,c,hB,hM,h0,h1,hu⟩:=h;exact⟨sa,cap,u,c,hB.box,hB.own (r:=⟨B,45,.slice sa cs.length cap,cs.length,uB cs,3⟩) (by simp),hM,hu⟩
theorem BldS.put (h : BldS w0 B X o mb wk cs w){x : ChoV}(hx : x ∉ cs){sa : Option Addr}{cap u1 c1 : Nat}(hbx : w.heap[o]? = some (.cells #[.slice sa cs.length cap, .map (some mb)] 137 (0, 0)))(hg : w.grownBy w' (some mb))(hM1 : MapK 45 qAU choW w' mb u1 c1 (numH (cs ++ [x])))(hu1 : u1 ≤ cs.length + 1):
  w'.cell? ⟨o, 0, none⟩ = some (.slice sa cs.length cap) ∧ w'.ownsRow B 45 3 (.slice sa cs.length cap) cs.length (uB cs) ∧ B ≤ w'.heap.size ∧
  (∀ wg, w'.grownBy wg none → ∀ w2 s' c', w2.ownsRow B 45 3 (.slice s' (cs.length + 1) c') (cs.length + 1) (uB cs ++ qIC x) → wg.grownBy w2 (Value.slice sa cs.length cap).ownBlock → qP wg w2 (.slice sa cs.length cap) (.slice s' (cs.length + 1) c') →
   w2.cell? ⟨o, 0, none⟩ = some (.slice sa cs.length cap) ∧ w2.frozen? ⟨o, 0, none⟩ = false ∧ BldS w0 B X o mb wk (cs ++ [x]) (w2.setCell ⟨o, 0, none⟩ (.slice s' (cs.length + 1) c'))) := by
 obtain ⟨sa2, cap2, u2, c2, hB, hM, hmx, hmb, hu⟩ := h
 have hbx2 := hB.box
 rw [hbx] at hbx2
 simp only [Option.some.injEq, Obj.cells.injEq, and_true] at hbx2
 have hbx2 := congrArg Array.toList hbx2
 simp only [List.cons.injEq, and_true, Value.slice.injEq, true_and] at hbx2
 obtain ⟨rfl, rfl⟩ := hbx2
 have homb : o ≠ mb := fun e => by
  obtain ⟨es, clock, hb⟩ := hM.obj
  rw [e, hb] at hbx; simp at hbx
 have hfar := hB.far hg (fun r hr => yX (es := #[]) (clock := 0) (hB.mem.own r hr) hM.obj) hmx homb hmb
 have ho := hfar.own (r := ⟨B, 45, .slice sa cs.length cap, cs.length, uB cs, 3⟩) (by simp)
 have hb0 := zJ hfar.box 0 (by simp)
 simp only [List.getElem_toArray, List.getElem_cons_zero] at hb0
 refine ⟨hb0, ho, Nat.le_trans hfar.base hfar.wk, fun wg hwg w2 s' c' hown hg2 hmv => ?_⟩
 have hfg := hfar.grow hwg
 have hMg := hM1.kept hwg (by simp)
 have hSm : (Value.slice sa cs.length cap).ownBlock ≠ some mb := yX (es := #[]) (clock := 0) (zQ ho hwg) hMg.obj
 have hA := hfg.appAt (j := 0) rfl hown hg2 hmv
 have hb2 := zJ hA.box 0 (by simp)
 simp only [List.getElem_toArray, List.getElem_cons_zero] at hb2
 have hZ := hA.set 0 (.slice s' (cs.length + 1) c')
 have hM2 := (hMg.kept hg2 hSm).kept (zC w2 ⟨o, 0, none⟩ (.slice s' (cs.length + 1) c')) (fun e => homb (Oj e))
 have e1 : (cs ++ [x]).length = cs.length + 1 := by rw [List.length_append]; rfl
 refine ⟨hb2, zE hA.box 0, ⟨s', c', u1, c1, ?_, hM2, hmx, hmb, by omega⟩⟩
 rw [e1, dE]
 exact hZ
end
end Go.Proofs.Ytjfdomfendbhfaa
namespace Go.Proofs.Ytjfdomfendbhfaa
def qCO (n:Nat):Code->Option Code
 | .block i c=>if i=n then some c else qCO n c
 | .seq a b=>match qCO n a with
  | some c=>some c
  | none=>qCO n b
 | .cond _ a b=>match qCO n a with
  | some c=>some c
  | none=>qCO n b
 | .loop c=>qCO n c
 | .scope c=>qCO n c
 | _=>none
noncomputable def blk (f:Func)(n:Nat):Code:=(f.body.bind (qCO n)).getD .skip
def qCN (n:Nat):Code->Option Code
 | .region i o d=>if i=n then some (.region i o d) else none
 | .block _ c=>qCN n c
 | .seq a b=>match qCN n a with
  | some c=>some c
  | none=>qCN n b
 | .cond _ a b=>match qCN n a with
  | some c=>some c
  | none=>qCN n b
 | .loop c=>qCN n c
 | .scope c=>qCN n c
 | _=>none
noncomputable def reg (f:Func)(n:Nat):Code:=(f.body.bind (qCN n)).getD .skip
end Go.Proofs.Ytjfdomfendbhfaa
namespace Go.Proofs.Ytjfdomfendbhfaa
open Go.RowKit Go.Maps
theorem dg_reg6 {Q':Exit->Act->World->Prop}{v2 v3 v4 v6 v7 v8 v9 v10 v11 v12 v13 v14 v15 v16 v17 v18 v19 v20 v21 v22 v23 v24 v25 v26 v27 v28 v29 v30 v31 v32 v33 v34 v35 v36 v37 v38 v39 v40 v41 v42 v43 v44 v45 v46 v47 v48 v49 v50 v51 v52 v53 v54 v55 v56 v57 v58 v59 v60 v61 v62 v63 v64 v65 v66 v67 v68 v69 v70 v71 v72:Value}{dd:_}{w:World}{P tb B base m:Nat}{sc:Option Addr}{cc:Nat}{svs:List Value}{letters:Int}{cv rv:Value}(hb:w.heap[P]?=some (.cells #[.slice sc m cc,cv,rv] 25 (0,0)))(ho:w.ownsRow base 28 1 (.slice sc m cc) m svs)(hT:xX B w tb)(hlt:tb<base/\P<base)(hne:P≠tb)(hbase:base<=w.heap.size)(hm:m<=1000)(hBP:B<=P)(hl1:1<=letters)(hl6:letters<=6)(hexit:∀ (z19 z20 z21 z22 z23 z24 z25 z26:Value) (sc':Option Addr) (cc':Nat) (u:Value) (bs:List (List Int)) (w0 w1 w':World),w.grownBy w0 (some tb)->w0.ownsRow base 28 1 (.slice sc m cc) m svs->w0.grownBy w1 (Value.slice sc m cc).ownBlock->w1.grownBy w' (some P)->RowT w0.heap.size 9 w0 u (strs bs)->tK letters bs->w'.heap[P]?=some (.cells #[.slice sc' (m+1) cc',cv,rv] 25 (0,0))->w'.ownsRow base 28 1 (.slice sc' (m+1) cc') (m+1) (svs++[u])->xX B w' tb->Q' .normal ⟨((Value.pointer (some ⟨tb,0,none⟩))::(Value.int .i64 letters)::v2::v3::v4::(Value.pointer (some ⟨P,0,none⟩))::v6::v7::v8::v9::v10::v11::v12::v13::v14::v15::v16::v17::v18::z19::z20::z21::z22::z23::z24::z25::z26::v27::v28::v29::v30::v31::v32::v33::v34::v35::v36::v37::v38::v39::v40::v41::v42::v43::v44::v45::v46::v47::v48::v49::v50::v51::v52::v53::v54::v55::v56::v57::v58::v59::v60::v61::v62::v63::v64::v65::v66::v67::v68::v69::v70::v71::v72::[]).toArray,dd⟩ w'):
  Code.wp Try.prog (reg Try.f26 6) Q' ⟨((Value.pointer (some ⟨tb,0,none⟩))::(Value.int .i64 letters)::v2::v3::v4::(Value.pointer (some ⟨P,0,none⟩))::v6::v7::v8::v9::v10::v11::v12::v13::v14::v15::v16::v17::v18::v19::v20::v21::v22::v23::v24::v25::v26::v27::v28::v29::v30::v31::v32::v33::v34::v35::v36::v37::v38::v39::v40::v41::v42::v43::v44::v45::v46::v47::v48::v49::v50::v51::v52::v53::v54::v55::v56::v57::v58::v59::v60::v61::v62::v63::v64::v65::v66::v67::v68::v69::v70::v71::v72::[]).toArray,dd⟩ w:=by
 conv=>arg 2;whnf
 obtain⟨w7,H3⟩:∃ w7,w7=w.drew:=⟨_,rfl⟩;have h6:w.grownBy w7 none:=by rw[H3];exact zP w none
 have a4:=Kh H3;have HB:=Kh (zA hb h6 (by simp));have HO:=Kh (zQ ho h6);have h4:Hid (w.grownBy w7 (some tb)):=Kh (yQ h6);have HT:=Kh (hT.kept h6 (by simp));have a0:=Kh hne;have H1:=Kh hlt;have HE:=Kh hexit;have a9:=Kh hbase;have b0:=Kh hBP;have C:Hid (w7.cell? ⟨P,0,none⟩=some (.slice sc m cc)):=Kh ((zH HB.out).1);clear H3 h6 hb ho hT hexit hbase hne hlt;refine wp_region_noPanic ?_;refine xZ (G:=tG 8 (fun _=>True) (fun W=>W.cell? ⟨P,0,none⟩=some (.slice sc m cc))) (by kernel_rfl) ?_;rw[<- a4.out];refine vX 0 ⟨trivial,fun _=>C.out⟩ ?_;refine vX 1 ⟨trivial,fun _=>C.out⟩ ?_;refine vX 2 ⟨trivial,fun _=>C.out⟩ ?_;refine vX 3 ⟨trivial,fun _=>C.out⟩ ?_;refine oneG (i:=4) (by kernel_rfl) rfl (fun K hK=>?_);go_simp
 go_at_call 67
 refine(pattern_anyT B tb w7 letters hl1 hl6 HT.out).mono ?_;rintro e w8 ⟨u,bs,rfl,h2,h0,H8,H0⟩;have h3:=Kh h2;have h8:=Kh h0;have HT:=Kh H8;have HB:=Kh (zA HB.out H0 (fun e=>a0.out (Oj e).symm));have HO:=Kh (HO.out.kept H0 (by rcases hv:(Value.slice sc m cc).ownBlock with _|j;exact .inl rfl;exact .inr (fun e=>by have e:j=tb:=Oj e;have:=(HO.out.lt j hv).1;have:=H1.out.1;omega)));have h4:=Kh (zD h4.out H0);have C:Hid (w8.cell? ⟨P,0,none⟩=some (.slice sc m cc)):=Kh ((zH HB.out).1);obtain⟨ua,uc,hu⟩:=h2.shape;obtain⟨ul,H4⟩:∃ n,n=(strs bs).length:=⟨_,rfl⟩;rw[<- H4]at hu;subst hu;refine hK.out _ _ ⟨trivial,fun _=>C.out⟩ ?_;clear hK K H8 H0 h2 h0 H4
 try simp only[Act.put,sPd,sPe,sPf,sPa,sPb,sPc]
 have h1:=Ga w8 (.cells #[.slice ua ul uc] 28) none;have h7:=heap_alloc_new w8 (.cells #[.slice ua ul uc] 28);obtain⟨X,hX⟩:∃ X,X=w8.heap.size:=⟨_,rfl⟩;obtain⟨wl,H2⟩:∃ wl,wl=w8.alloc (.cells #[.slice ua ul uc] 28):=⟨_,rfl⟩;rw[<- H2]at h1 h7;rw[<- hX]at h7;have a3:=Kh H2;have a2:=Kh hX;have h3:=Kh ((h3.out.kept h1 (by simp)).mono h1.size);have HB:=Kh (zA HB.out h1 (by simp));have HO:=Kh (zQ HO.out h1);have h4:=Kh (zD h4.out (yQ h1));have HT:=Kh (HT.out.kept h1 (by simp));have b1:=Kh h7;have C:Hid (wl.cell? ⟨P,0,none⟩=some (.slice sc m cc)):=Kh ((zH HB.out).1);clear h1 h7 hX H2;refine oneG (i:=5) (by kernel_rfl) rfl (fun K hK=>?_);go_simp;rw[<- a3.out,<- a2.out];refine hK.out _ _ ⟨trivial,fun _=>C.out⟩ ?_;clear hK K
 try simp only[Act.put,sPd,sPe,sPf,sPa,sPb,sPc]
 have hz:=Nat.le_trans a9.out h4.out.size;refine oneG (i:=6) (by kernel_rfl) rfl (fun K hK=>?_);refine tQ rfl (.tmp 20) (.tmp 24) 22 rfl sW.toN base (.slice sc m cc) m _ rfl HO.out [.slice ua ul uc] X rfl (0,0) rfl b1.out ?z1 ?z2 ?z3 hz ?_
 case z1=>intro v hv;simp only[List.mem_cons,List.not_mem_nil,or_false]at hv;subst hv;rfl
 case z2=>unfold maxLen;omega
 case z3=>omega
 intro sc' cc' wp h5 h9 a1;have a8:=Kh h9;have H9:=Kh h5;have HB:=Kh (zA HB.out h9 (fun e=>by have:=(HO.out.lt P e).1;have:=H1.out;omega));have HT:=Kh (HT.out.kept h9 (fun k e=>by have:=(HO.out.lt k e).1;have:=H1.out;have:=HT.out.ge;omega));have C:Hid (wp.cell? ⟨P,0,none⟩=some (.slice sc m cc)):=Kh ((zH HB.out).1);refine hK.out _ _ ⟨trivial,fun _=>C.out⟩ ?_;clear hK K h5 h9 a1
 try simp only[Act.put,sPd,sPe,sPf,sPa,sPb,sPc]
 refine vX 7 ⟨trivial,fun _=>C.out⟩ ?_;have c1:=C.out;have f1:=zE HB.out 0;have h7:=zI HB.out;have H6:=heap_setCell_same wp P 0 _ _ (.slice sc' (m+1) cc') HB.out;have H7:=H9.out.kept (zC wp ⟨P,0,none⟩ (.slice sc' (m+1) cc')) (.inr (fun e=>by have:=(H9.out.lt P e).1;have:=H1.out;omega));have H5:=HT.out.kept (zC wp ⟨P,0,none⟩ (.slice sc' (m+1) cc')) (fun k e=>by have e:P=k:=Oj e;have:=a0.out;have:=b0.out;omega);have a6:=Kh H6;have a7:=Kh H7;have a5:=Kh H5;clear H6 H7 H5;refine oneG (i:=8) (by kernel_rfl) rfl (fun K hK=>?_);go_simp;refine hK.out _ _ ⟨trivial,fun h=>by cases h⟩ ?_;clear hK K
 try simp only[Act.put,sPd,sPe,sPf,sPa,sPb,sPc]
 refine nE (by kernel_rfl) ?_ _;exact HE.out _ _ _ _ _ _ _ _ sc' cc' (.slice ua ul uc) bs wl wp _ h4.out HO.out a8.out (zC wp ⟨P,0,none⟩ (.slice sc' (m+1) cc')) h3.out h8.out a6.out a7.out a5.out
end Go.Proofs.Ytjfdomfendbhfaa
namespace Go.Proofs.Ytjfdomfendbhfaa
open Go.RowKit Go.Maps
theorem dg_reg14 {Q':Exit->Act->World->Prop}{v1 v2 v3 v4 v6 v7 v10 v11 v12 v13 v14 v15 v16 v17 v18 v19 v20 v21 v22 v23 v24 v25 v26 v27 v28 v29 v30 v31 v32 v33 v34 v35 v36 v37 v38 v39 v40 v41 v42 v43 v44 v45 v46 v47 v48 v49 v50 v51 v52 v53 v54 v55 v56 v57 v58 v59 v60 v61 v62 v63 v64 v65 v66 v67 v68 v69 v70 v71 v72:Value}{dd:_}{w:World}{P tb B base m:Nat}{sc:Option Addr}{cc:Nat}{cs:List ChoV}{i:Int}{pv rv:Value}{low:Int}(hb:w.heap[P]?=some (.cells #[pv,.slice sc m cc,rv] 25 (0,0)))(ho:w.ownsRow base 45 3 (.slice sc m cc) m (uB cs))(hT:xX B w tb)(hlt:tb<base/\P<base)(hne:P≠tb)(hbase:base<=w.heap.size)(hm:m<=1000)(hBP:B<=P)(hlow:0<=low/\low<=1000)(hexit:∀ (z42 z43 z44 z45 z46 z47 z48 z49 z50 z51 z52 z53 z54 z55 z56:Value) (sc':Option Addr) (cc':Nat) (y n:Int) (w0 w1 w':World),w.grownBy w0 (some tb)->w0.ownsRow base 45 3 (.slice sc m cc) m (uB cs)->w0.grownBy w1 (Value.slice sc m cc).ownBlock->w1.grownBy w' (some P)->0<=y->y<2+low->0<=n->n<2+low->w'.heap[P]?=some (.cells #[pv,.slice sc' (m+1) cc',rv] 25 (0,0))->w'.ownsRow base 45 3 (.slice sc' (m+1) cc') (m+1) (uB (cs++[⟨i,y,n⟩]))->xX B w' tb->Q' .normal ⟨((Value.pointer (some ⟨tb,0,none⟩))::v1::v2::v3::v4::(Value.pointer (some ⟨P,0,none⟩))::v6::v7::(Value.int .i64 i)::(Value.int .i64 low)::v10::v11::v12::v13::v14::v15::v16::v17::v18::v19::v20::v21::v22::v23::v24::v25::v26::v27::v28::v29::v30::v31::v32::v33::v34::v35::v36::v37::v38::v39::v40::v41::z42::z43::z44::z45::z46::z47::z48::z49::z50::z51::z52::z53::z54::z55::z56::v57::v58::v59::v60::v61::v62::v63::v64::v65::v66::v67::v68::v69::v70::v71::v72::[]).toArray,dd⟩ w'):
  Code.wp Try.prog (reg Try.f26 14) Q' ⟨((Value.pointer (some ⟨tb,0,none⟩))::v1::v2::v3::v4::(Value.pointer (some ⟨P,0,none⟩))::v6::v7::(Value.int .i64 i)::(Value.int .i64 low)::v10::v11::v12::v13::v14::v15::v16::v17::v18::v19::v20::v21::v22::v23::v24::v25::v26::v27::v28::v29::v30::v31::v32::v33::v34::v35::v36::v37::v38::v39::v40::v41::v42::v43::v44::v45::v46::v47::v48::v49::v50::v51::v52::v53::v54::v55::v56::v57::v58::v59::v60::v61::v62::v63::v64::v65::v66::v67::v68::v69::v70::v71::v72::[]).toArray,dd⟩ w:=by
 conv=>arg 2;whnf
 obtain⟨w7,H0⟩:∃ w7,w7=w.drew:=⟨_,rfl⟩;have h4:w.grownBy w7 none:=by rw[H0];exact zP w none
 have a6:=Kh H0;have HB:=Kh (zA hb h4 (by simp));have HO:=Kh (zQ ho h4);have h1:Hid (w.grownBy w7 (some tb)):=Kh (yQ h4);have HT:=Kh (hT.kept h4 (by simp));have H1:=Kh hne;have h7:=Kh hlt;have HE:=Kh hexit;have b1:=Kh hbase;have b2:=Kh hBP;have C:Hid (w7.cell? ⟨P,1,none⟩=some (.slice sc m cc)):=Kh ((zH HB.out).2.1);clear H0 h4 hb ho hT hexit hbase hne hlt;have e8:IntKind.i64.wrap (2+low)=2+low:=wG (by omega);have H9:=Kh hlow;refine wp_region_noPanic ?_;refine xZ (G:=tG 15 (fun _=>True) (fun W=>W.cell? ⟨P,1,none⟩=some (.slice sc m cc))) (by kernel_rfl) ?_;rw[<- a6.out];refine vX 0 ⟨trivial,fun _=>C.out⟩ ?_;refine vX 1 ⟨trivial,fun _=>C.out⟩ ?_;refine vX 2 ⟨trivial,fun _=>C.out⟩ ?_;refine vX 3 ⟨trivial,fun _=>C.out⟩ ?_;refine vX 4 ⟨trivial,fun _=>C.out⟩ ?_;refine vX 5 ⟨trivial,fun _=>C.out⟩ ?_;refine vX 7 ⟨trivial,fun _=>C.out⟩ ?_;refine vX 8 ⟨trivial,fun _=>C.out⟩ ?_;refine vX 9 ⟨trivial,fun _=>C.out⟩ ?_;refine oneG (i:=6) (by kernel_rfl) rfl (fun K hK=>?_);go_simp
 go_at_call 15
 refine(sR B tb w7 (2+low) (by omega) HT.out).mono ?_;rintro e w8 ⟨y,rfl,H3,H2,h6,h0⟩;have Hy:Hid (0<=y/\y<2+low):=Kh ⟨H3,H2 (by omega)⟩;have HT:=Kh h6;have HB:=Kh (zA HB.out h0 (fun e=>H1.out (Oj e).symm));have HO:=Kh (HO.out.kept h0 (by rcases hv:(Value.slice sc m cc).ownBlock with _|j;exact .inl rfl;exact .inr (fun e=>by have e:j=tb:=Oj e;have:=(HO.out.lt j hv).1;have:=h7.out.1;omega)));have h1:=Kh (zD h1.out h0);have C:Hid (w8.cell? ⟨P,1,none⟩=some (.slice sc m cc)):=Kh ((zH HB.out).2.1);have a3:Hid (w7.heap.size<=w8.heap.size):=Kh h0.size;refine hK.out _ _ ⟨trivial,fun _=>C.out⟩ ?_;clear hK K h6 h0 H3 H2
 try simp only[Act.put,sPd,sPe,sPf,sPa,sPb,sPc]
 refine oneG (i:=10) (by kernel_rfl) rfl (fun K hK=>?_);go_simp
 go_at_call 15
 refine(sR B tb w8 (2+low) (by omega) HT.out).mono ?_;rintro e w9 ⟨n,rfl,H8,H7,h6,h0⟩;have Hn:Hid (0<=n/\n<2+low):=Kh ⟨H8,H7 (by omega)⟩;have HT:=Kh h6;have HB:=Kh (zA HB.out h0 (fun e=>H1.out (Oj e).symm));have HO:=Kh (HO.out.kept h0 (by rcases hv:(Value.slice sc m cc).ownBlock with _|j;exact .inl rfl;exact .inr (fun e=>by have e:j=tb:=Oj e;have:=(HO.out.lt j hv).1;have:=h7.out.1;omega)));have h1:=Kh (zD h1.out h0);have C:Hid (w9.cell? ⟨P,1,none⟩=some (.slice sc m cc)):=Kh ((zH HB.out).2.1);have a2:Hid (w8.heap.size<=w9.heap.size):=Kh h0.size;refine hK.out _ _ ⟨trivial,fun _=>C.out⟩ ?_;clear hK K h6 h0 H8 H7
 try simp only[Act.put,sPd,sPe,sPf,sPa,sPb,sPc]
 refine vX 11 ⟨trivial,fun _=>C.out⟩ ?_;have h2:=Ga w9 (.cells #[.int .i64 i,.int .i64 y,.int .i64 n] 45) none;have h5:=heap_alloc_new w9 (.cells #[.int .i64 i,.int .i64 y,.int .i64 n] 45);obtain⟨X,hX⟩:∃ X,X=w9.heap.size:=⟨_,rfl⟩;obtain⟨wl,h9⟩:∃ wl,wl=w9.alloc (.cells #[.int .i64 i,.int .i64 y,.int .i64 n] 45):=⟨_,rfl⟩;rw[<- h9]at h2 h5;rw[<- hX]at h5;have a5:=Kh h9;have a4:=Kh hX;have HB:=Kh (zA HB.out h2 (by simp));have HO:=Kh (zQ HO.out h2);have h1:=Kh (zD h1.out (yQ h2));have HT:=Kh (HT.out.kept h2 (by simp));have b3:=Kh h5;have C:Hid (wl.cell? ⟨P,1,none⟩=some (.slice sc m cc)):=Kh ((zH HB.out).2.1);clear h2 h5 hX h9;refine oneG (i:=12) (by kernel_rfl) rfl (fun K hK=>?_);go_simp;rw[<- a5.out,<- a4.out];refine hK.out _ _ ⟨trivial,fun _=>C.out⟩ ?_;clear hK K
 try simp only[Act.put,sPd,sPe,sPf,sPa,sPb,sPc]
 have hz:=Nat.le_trans b1.out h1.out.size;refine oneG (i:=13) (by kernel_rfl) rfl (fun K hK=>?_);refine tQ rfl (.tmp 43) (.tmp 54) 23 rfl qFI base (.slice sc m cc) m _ rfl HO.out [.int .i64 i,.int .i64 y,.int .i64 n] X rfl (0,0) rfl b3.out ?z1 ?z2 ?z3 hz ?_
 case z1=>intro v hv;simp only[List.mem_cons,List.not_mem_nil,or_false]at hv;rcases hv with rfl|rfl|rfl<;>rfl
 case z2=>unfold maxLen;omega
 case z3=>omega
 intro sc' cc' wp h3 h8 a1;have b0:=Kh h8;have a0:=Kh h3;have HB:=Kh (zA HB.out h8 (fun e=>by have:=(HO.out.lt P e).1;have:=h7.out;omega));have HT:=Kh (HT.out.kept h8 (fun k e=>by have:=(HO.out.lt k e).1;have:=h7.out;have:=HT.out.ge;omega));have C:Hid (wp.cell? ⟨P,1,none⟩=some (.slice sc m cc)):=Kh ((zH HB.out).2.1);refine hK.out _ _ ⟨trivial,fun _=>C.out⟩ ?_;clear hK K h3 h8 a1
 try simp only[Act.put,sPd,sPe,sPf,sPa,sPb,sPc]
 refine vX 14 ⟨trivial,fun _=>C.out⟩ ?_;have c1:=C.out;have f1:=zE HB.out 1;have h5:=zI HB.out;have H5:=heap_setCell_same wp P 1 _ _ (.slice sc' (m+1) cc') HB.out;have H6:=a0.out.kept (zC wp ⟨P,1,none⟩ (.slice sc' (m+1) cc')) (.inr (fun e=>by have:=(a0.out.lt P e).1;have:=h7.out;omega));have H4:=HT.out.kept (zC wp ⟨P,1,none⟩ (.slice sc' (m+1) cc')) (fun k e=>by have e:P=k:=Oj e;have:=H1.out;have:=b2.out;omega);have a8:=Kh H5;have a9:=Kh H6;have a7:=Kh H4;clear H5 H6 H4;refine oneG (i:=15) (by kernel_rfl) rfl (fun K hK=>?_);go_simp;refine hK.out _ _ ⟨trivial,fun h=>by cases h⟩ ?_;clear hK K
 try simp only[Act.put,sPd,sPe,sPf,sPa,sPb,sPc]
 refine nE (by kernel_rfl) ?_ _;exact HE.out _ _ _ _ _ _ _ _ _ _ _ _ _ _ _ sc' cc' y n wl wp _ h1.out HO.out b0.out (zC wp ⟨P,1,none⟩ (.slice sc' (m+1) cc')) Hy.out.1 Hy.out.2 Hn.out.1 Hn.out.2 a8.out (by rw[dE];exact a9.out) a7.out
end Go.Proofs.Ytjfdomfendbhfaa
namespace Go.Proofs.Ytjfdomfendbhfaa
open Go.RowKit Go.Maps
def conR (l:List ClaV):Int:=if qI l=true/\0<l.length then iN (l.headD default).b else 0
def ConI (l:List ClaV)(k:Nat):Prop:=∀ i,i<k->(l.getD i default).b=(l.headD default).b
theorem ConI.bad {l:List ClaV}{k:Nat}(hk:k<l.length)(h:(l.getD k default).b≠(l.headD default).b):qI l=false:=by
 rw[qI,List.all_eq_false];refine⟨l[k],List.getElem_mem hk,?_⟩;rw[zG hk]at h;simpa using h
theorem ConI.all {l:List ClaV}(h:ConI l l.length):qI l=true:=by
 rw[qI,List.all_eq_true];intro c hc;obtain⟨i,hi,rfl⟩:=List.getElem_of_mem hc;have:=h i hi;rw[zG hi]at this;simp[this]
theorem constant_any (X:Nat->Prop)(w:World)(v:Value)(l:List ClaV)(h:ClsX X w v l):
  Calls Try.prog 112 #[v] w fun e w'=>e=.returned (.tuple #[.int .i64 (conR l),.bool (qI l)])/\w.grownBy w' none:=by
 have H6:=h.len_le;obtain⟨a,c,rfl⟩:=h.shape;obtain⟨n,hn⟩:∃ n,n=l.length:=⟨_,rfl⟩;have H:=Kh h;have HN:=Kh hn;rw[<- hn]at H6 H ⊢;unfold maxLen at H6;obtain⟨hb,H7⟩:∃ b,b=(l.headD default).b:=⟨_,rfl⟩;have H1:=Kh H7;clear h hn H7;go_enter Try.func112,Try.ntmps112;go_wp2
 go_loopg [4,5,7,10] n (fun gh v4 v5 v7 v10 wr=>∃ k:Nat,gh+k=n/\v10=.int .i64 k/\v4=.int .i64 (if k=0 then 0 else iN hb)/\ConI l k/\w.grownBy wr none)
 case atStart=>exact⟨0,rfl,rfl,rfl,fun i hi=>by omega,zM _ _⟩
 case round =>
  obtain⟨k,H8,rfl,rfl,hc,hg⟩:=hrel;have h3:=Kh H8;have HC:=Kh hc;have HG:=Kh hg;clear H8 hc;by_cases hk:k<n
  ·have a6:(k:Int)<n:=by omega
   obtain⟨b,off,cap,e,_,a0,H9,h9⟩:=(H.out.grow hg).at_ (by rw[<- HN.out];omega);rw[<- HN.out]at e a0;simp only[Value.slice.injEq,true_and]at e;obtain⟨rfl,rfl⟩:=e;have a9:c<=9223372036854775807:=by unfold maxLen at H9;omega
   have c1:=h9.m k (by rw[<- HN.out];exact hk);have c2:=h9.y k (by rw[<- HN.out];exact hk);have c3:=h9.n k (by rw[<- HN.out];exact hk);obtain⟨U,hU⟩:∃ U,U=mT (l.getD k default).m:=⟨_,rfl⟩;obtain⟨y,hy⟩:∃ y,y=(l.getD k default).yes:=⟨_,rfl⟩;obtain⟨z,hz⟩:∃ z,z=(l.getD k default).no:=⟨_,rfl⟩;rw[<- hU]at c1;rw[<- hy]at c2;rw[<- hz]at c3;have HB:Hid ((l.getD k default).b=decide (0<=y)):=Kh (by rw[hy];rfl);have H0:=heap_alloc_new wr (.cells #[.string U,.int .i64 y,.int .i64 z] 99);have H4:=Ga wr (.cells #[.string U,.int .i64 y,.int .i64 z] 99) none;obtain⟨w2,H2⟩:∃ w2,w2=wr.alloc (.cells #[.string U,.int .i64 y,.int .i64 z] 99):=⟨_,rfl⟩;obtain⟨R,hR⟩:∃ R,R=wr.heap.size:=⟨_,rfl⟩;rw[<- H2]at H0 H4;rw[<- hR]at H0;have a7:=Kh H2;have a8:=Kh hR;have h6:=Kh (zB hg H4 (by simp));obtain⟨r0,r1,r2⟩:=zH H0;clear h9 a0 H9 hU hy hz H2 hR H4 H0 hg;go_upto_region 5 with fail;rw[<- a7.out,<- a8.out];clear c1 c2 c3
   have h4:Hid (∀ b:Bool,(l.getD k default).b=b->b=hb->ConI l (k+1)):=Kh (fun b h1 h2 i hi=>by
    rcases Nat.lt_succ_iff_lt_or_eq.1 hi with hi|rfl
    ·exact HC.out i hi
    ·rw[h1,h2,H1.out])
   have h8:Hid (∀ b:Bool,(l.getD k default).b=b->b≠hb->qI l=false):=Kh (fun b h1 h2=>ConI.bad (by rw[<- HN.out];exact hk) (by rw[h1,<- H1.out];exact h2))
   have a1:Hid (k=0->(l.getD k default).b=hb):=Kh (fun e=>by
    subst e;rw[H1.out];cases l with
    | nil=>have:=HN.out;simp at this;omega
    | cons x l=>rfl)
   by_cases hy0:(0:Int)<=y
   ·have h5:Hid ((l.getD k default).b=true):=Kh (by rw[HB.out];simp[hy0])
    by_cases hk0:k=0
    ·have HE:=Kh (a1.out hk0)
     have h7:Hid (hb=true):=Kh (by rw[<- HE.out,h5.out]);subst hk0;go_wp2;go_roundg (n - (0+1))
     case measure=>have:=h3.out;omega
     case rel=>exact⟨1,by have:=h3.out;omega,rfl,by rw[h7.out];rfl,h4.out true h5.out h7.out.symm,h6.out⟩
    ·have a5:(0:Int)<k:=by omega
     have a4:0<k:=(by omega);rw[if_neg hk0];cases hb with
     | true =>
      have e0:iN true=1:=rfl;go_wp2;go_roundg (n - (k+1))
      case measure=>have:=h3.out;omega
      case rel=>exact⟨k+1,by have:=h3.out;omega,by go_num,by rw[if_neg (by omega)];rfl,h4.out true h5.out rfl,h6.out⟩
     | false =>
      have e0:iN false=0:=rfl;have H5:=Kh (h8.out true h5.out (by simp));go_wp2;refine bodyPost_ret (v:=.tuple #[.int .i64 0,.bool false]) (by simp[results,Try.results112,go_sem]) rfl ?_;exact⟨by rw[conR,H5.out,if_neg (by simp)],h6.out⟩
   ·have h5:Hid ((l.getD k default).b=false):=Kh (by rw[HB.out];simp[hy0])
    by_cases hk0:k=0
    ·have HE:=Kh (a1.out hk0)
     have h7:Hid (hb=false):=Kh (by rw[<- HE.out,h5.out]);subst hk0;go_wp2;go_roundg (n - (0+1))
     case measure=>have:=h3.out;omega
     case rel=>exact⟨1,by have:=h3.out;omega,rfl,by rw[h7.out];rfl,h4.out false h5.out h7.out.symm,h6.out⟩
    ·have a5:(0:Int)<k:=by omega
     have a4:0<k:=(by omega);rw[if_neg hk0];cases hb with
     | false =>
      have e0:iN false=0:=rfl;go_wp2;go_roundg (n - (k+1))
      case measure=>have:=h3.out;omega
      case rel=>exact⟨k+1,by have:=h3.out;omega,by go_num,by rw[if_neg (by omega)];rfl,h4.out false h5.out rfl,h6.out⟩
     | true =>
      have e0:iN true=1:=rfl;have H5:=Kh (h8.out false h5.out (by simp));go_wp2;refine bodyPost_ret (v:=.tuple #[.int .i64 0,.bool false]) (by simp[results,Try.results112,go_sem]) rfl ?_;exact⟨by rw[conR,H5.out,if_neg (by simp)],h6.out⟩
  ·have H3:k=n:=by have:=h3.out;omega
   have a6:¬ (k:Int)<n:=(by omega);have a2:Hid (qI l=true):=Kh (ConI.all (by rw[<- HN.out,<- H3];exact HC.out))
   have a3:Hid (conR l=if k=0 then 0 else iN hb):=Kh (by
    rw[conR,a2.out,H1.out,<- HN.out,<- H3];by_cases h0:k=0
    ·rw[if_neg (by omega),if_pos h0]
    ·rw[if_pos ⟨rfl,by omega⟩,if_neg h0])
   obtain⟨x,hx⟩:∃ x:Int,x=if k=0 then 0 else iN hb:=⟨_,rfl⟩
   rw[<- hx]at a3 ⊢;clear H3 hx hg;go_wp2;refine bodyPost_ret (v:=.tuple #[.int .i64 x,.bool true]) (by simp[results,Try.results112,go_sem]) rfl ?_;exact⟨by rw[a3.out,a2.out],HG.out⟩
theorem mT_at {m:List Bool}{p:Nat}(hp:p<m.length):∃ h:p<(mT m).size,((mT m)[p]'h).toNat=if m.getD p false=true then 1 else 0:=by
 refine⟨by rw[qAC];exact hp,?_⟩
 have e1:(mT m).data.toList=(mN m).map (fun x=>UInt8.ofNat x):=by
  unfold mT txtT;rw[strOfNums_data];simp[zb]
 have hq:p<(mT m).size:=by rw[qAC];exact hp
 have e2:(mT m).data.toList[p]'(by simpa using hq)=(mT m)[p]'hq:=rfl;rw[<- e2,zG hp];simp only[e1,List.getElem_map,mN]
 split<;>rfl
theorem yesL_snoc {l:List ClaV}{k p:Nat}(hk:k<l.length):yesL (l.take (k+1)) p=if (l.getD k default).m.getD p false=true then yesL (l.take k) p++[l.getD k default] else yesL (l.take k) p:=by
 rw[zR (d:=default) hk,yesL,List.filter_append,List.filter_cons,List.filter_nil]
 split<;>simp[yesL]
theorem noL_snoc {l:List ClaV}{k p:Nat}(hk:k<l.length):noL (l.take (k+1)) p=if (l.getD k default).m.getD p false=true then noL (l.take k) p else noL (l.take k) p++[l.getD k default]:=by
 rw[zR (d:=default) hk,noL,List.filter_append,List.filter_cons,List.filter_nil];cases (l.getD k default).m.getD p false<;>simp[noL]
def qIX (w:World)(l:List ClaV)(p:Nat)(e:Ending)(w':World):Prop :=
 ∃ sy cy sn cn,e=.returned (.tuple #[.slice sy (yesL l p).length cy,.slice sn (noL l p).length cn])/\w'.ownsRow w.heap.size 99 3 (.slice sy (yesL l p).length cy) (yesL l p).length (tZ (yesL l p))/\w'.ownsRow w.heap.size 99 3 (.slice sn (noL l p).length cn) (noL l p).length (tZ (noL l p))/\w.grownBy w' none
structure Two (w:World)(ya na:Option Addr)(yc nc:Nat)(ly ln:List ClaV)(wr:World):Prop where
 y:wr.ownsRow w.heap.size 99 3 (.slice ya ly.length yc) ly.length (tZ ly)
 n:wr.ownsRow w.heap.size 99 3 (.slice na ln.length nc) ln.length (tZ ln)
 ne:∀ k,(Value.slice ya ly.length yc).ownBlock=some k->(Value.slice na ln.length nc).ownBlock≠some k
 gr:w.grownBy wr none
theorem Two.grow {w wr w':World}{ya na:Option Addr}{yc nc:Nat}{ly ln:List ClaV}(h:Two w ya na yc nc ly ln wr)(hg:wr.grownBy w' none):Two w ya na yc nc ly ln w':=⟨zQ h.y hg,zQ h.n hg,h.ne,zB h.gr hg (by simp)⟩
theorem Two.pushY {w wr w':World}{ya na sa:Option Addr}{yc nc sc:Nat}{ly ln:List ClaV}{c:ClaV}(h:Two w ya na yc nc ly ln wr)(ho:w'.ownsRow w.heap.size 99 3 (.slice sa (ly.length+1) sc) (ly.length+1) (tZ ly++cval c))(hg:wr.grownBy w' (Value.slice ya ly.length yc).ownBlock)(hm:qP wr w' (.slice ya ly.length yc) (.slice sa (ly.length+1) sc)):
  Two w sa na sc nc (ly++[c]) ln w':=by
 refine⟨by rw[List.length_append,iH];exact ho,h.n.kept hg ?_,fun k hk=>?_,zB h.gr hg (fun k e=>(h.y.lt k e).1)⟩
 ·rcases hv:(Value.slice na ln.length nc).ownBlock with _|k
  ·exact .inl rfl
  ·exact .inr (fun e=>h.ne k e.symm hv)
 ·rw[List.length_append]at hk
  rcases hm with hm|⟨_,hm⟩
  ·have e:(Value.slice sa (ly.length+1) sc).ownBlock=some k:=hk
   rw[hm]at e;exact h.ne k e
  ·have:=hm k hk
   intro e;have:=(h.n.lt k e).2;omega
theorem Two.pushN {w wr w':World}{ya na sa:Option Addr}{yc nc sc:Nat}{ly ln:List ClaV}{c:ClaV}(h:Two w ya na yc nc ly ln wr)(ho:w'.ownsRow w.heap.size 99 3 (.slice sa (ln.length+1) sc) (ln.length+1) (tZ ln++cval c))(hg:wr.grownBy w' (Value.slice na ln.length nc).ownBlock)(hm:qP wr w' (.slice na ln.length nc) (.slice sa (ln.length+1) sc)):
  Two w ya sa yc sc ly (ln++[c]) w':=by
 refine⟨h.y.kept hg ?_,by rw[List.length_append,iH];exact ho,fun k hk e0=>?_,zB h.gr hg (fun k e=>(h.n.lt k e).1)⟩
 ·rcases hv:(Value.slice ya ly.length yc).ownBlock with _|k
  ·exact .inl rfl
  ·exact .inr (fun e=>h.ne k hv e.symm)
 ·rw[List.length_append]at e0
  rcases hm with hm|⟨_,hm⟩
  ·have e:(Value.slice sa (ln.length+1) sc).ownBlock=some k:=e0
   rw[hm]at e;exact h.ne k hk e
  ·have:=hm k e0
   have:=(h.y.lt k hk).2;omega
theorem divide_any (X:Nat->Prop)(w:World)(v:Value)(l:List ClaV)(p:Nat)(h:ClsX X w v l)(hp:∀ c∈l,p<c.m.length/\c.m.length<=400)(hl:l.length<=4000):
  Calls Try.prog 113 #[v,.int .i64 (p:Int)] w (qIX w l p):=by
 obtain⟨a,c,rfl⟩:=h.shape;obtain⟨n,hn⟩:∃ n,n=l.length:=⟨_,rfl⟩;have H:=Kh h;have HN:=Kh hn;have HP:=Kh hp;rw[<- hn]at hl H ⊢;clear h hn hp;go_enter Try.func113,Try.ntmps113;go_wp2
 go_loopg [4,5,10] n (fun gh v4 v5 v10 wr=>∃ (k:Nat) (ya na:Option Addr) (yc nc:Nat),gh+k=n/\v10=.int .i64 k/\v4=.slice ya (yesL (l.take k) p).length yc/\v5=.slice na (noL (l.take k) p).length nc/\Two w ya na yc nc (yesL (l.take k) p) (noL (l.take k) p) wr)
 case atStart=>exact⟨0,none,none,0,0,rfl,rfl,rfl,rfl,World.ownsRow_nil _ _ _ _,World.ownsRow_nil _ _ _ _,fun k hk=>by simp[Value.ownBlock]at hk,zM _ _⟩
 case round =>
  obtain⟨k,ya,na,yc,nc,a1,rfl,rfl,rfl,hT⟩:=hrel;have h7:=Kh a1;have HT:=Kh hT;have hg:=hT.gr;clear a1 hT;by_cases hk:k<n
  ·have a8:(k:Int)<n:=by omega
   obtain⟨b,off,cap,e,_,a3,a2,h8⟩:=(H.out.grow hg).at_ (by rw[<- HN.out];omega);rw[<- HN.out]at e a3;simp only[Value.slice.injEq,true_and]at e;obtain⟨rfl,rfl⟩:=e;have b4:c<=9223372036854775807:=by unfold maxLen at a2;omega
   have h2:k<l.length:=(by rw[<- HN.out];exact hk);have c1:=h8.m k h2;have c2:=h8.y k h2;have c3:=h8.n k h2;obtain⟨H4,H3⟩:=HP.out (l.getD k default) (by rw[zG h2];exact List.getElem_mem h2);have HY:=Kh (yesL_snoc (p:=p) h2);have h1:=Kh (noL_snoc (p:=p) h2);have a5:(yesL (l.take k) p).length+(noL (l.take k) p).length<=4000:=by rw[qAX,List.length_take];omega
   obtain⟨ly,H5⟩:∃ x,x=yesL (l.take k) p:=⟨_,rfl⟩;obtain⟨ln,H6⟩:∃ x,x=noL (l.take k) p:=⟨_,rfl⟩;rw[<- H5,<- H6]at HT a5;rw[<- H5]at HY ⊢;rw[<- H6]at h1 ⊢;obtain⟨d,hd⟩:∃ d,d=l.getD k default:=⟨_,rfl⟩;rw[<- hd]at c1 c2 c3 HY h1 H4 H3;obtain⟨a6,h3⟩:=mT_at H4;have H2:(mT d.m).size<=400:=by rw[qAC];exact H3
   have H9:Hid (cval d=[.string (mT d.m),.int .i64 d.yes,.int .i64 d.no]):=Kh rfl;obtain⟨U,hU⟩:∃ U,U=mT d.m:=⟨_,rfl⟩;obtain⟨y,hy⟩:∃ y,y=d.yes:=⟨_,rfl⟩;obtain⟨z,hz⟩:∃ z,z=d.no:=⟨_,rfl⟩;rw[<- hU,<- hy,<- hz]at H9;rw[<- hy]at c2;rw[<- hz]at c3
   generalize hgu:mT d.m=U2 at a6 h3 H2 c1
   have e9:U2=U:=by rw[<- hgu,hU]
   subst e9;clear hgu hU;have b3:(p:Int)<U2.size:=(by omega);have h9:=heap_alloc_new wr (.cells #[.string U2,.int .i64 y,.int .i64 z] 99);have H7:=Ga wr (.cells #[.string U2,.int .i64 y,.int .i64 z] 99) none;obtain⟨w2,H0⟩:∃ w2,w2=wr.alloc (.cells #[.string U2,.int .i64 y,.int .i64 z] 99):=⟨_,rfl⟩;obtain⟨R,hR⟩:∃ R,R=wr.heap.size:=⟨_,rfl⟩;rw[<- H0]at h9 H7;rw[<- hR]at h9;have a9:=Kh H0;have b0:=Kh hR;have h6:=Kh (HT.out.grow H7);have a0:=h6.out.gr.size;obtain⟨r0,r1,r2⟩:=zH h9;obtain⟨bo,a4⟩:∃ bo,bo=d.m.getD p false:=⟨_,rfl⟩;rw[<- a4]at h3 HY h1;clear h8 a3 a2 hy hz H0 hR H7 h9 hg hd a4 HT H4 H3 H5 H6;go_upto_region 4 with fail;rw[<- a9.out,<- b0.out];clear c1 c2 c3;cases bo with
   | true =>
    rw[if_pos rfl]at h3 HY h1;have H1:((U2[p].toNat:Nat):Int)=1:=by rw[h3];rfl
    have b1:=Kh h6.out.y;go_wp2_with (first|(at_builtin;refine uR rfl _ _ _ rfl qAJ w.heap.size (.slice ya ly.length yc) ly.length (tZ ly) rfl b1.out [.string U2,.int .i64 y,.int .i64 z] rfl rfl ?z1 ?z2 ?z3 ?z4 ?_;(case z1=>(intro v hv;simp only[List.mem_cons,List.not_mem_nil,or_false]at hv;rcases hv with rfl|rfl|rfl<;>rfl));(case z2=>(unfold maxLen;omega));(case z3=>(show (ly.length+1) * 32<=140737488355328;omega));(case z4=>exact a0);intro sv cv wM h0 h5 h4;(have H8:=Kh (h6.out.pushY (c:=d) (by rw[H9.out];exact h0) h5 h4));clear h0 h5 h4)|fail);go_wp2;go_roundg (n - (k+1))
    case measure=>have:=h7.out;omega
    case rel=>exact⟨k+1,sv,na,cv,nc,by have:=h7.out;omega,by go_num,by rw[HY.out,List.length_append];rfl,by rw[h1.out],by rw[HY.out,h1.out];exact H8.out⟩
   | false =>
    rw[if_neg (by simp)]at h3 HY h1;have H1:((U2[p].toNat:Nat):Int)=0:=by rw[h3];rfl
    have b2:=Kh h6.out.n;go_wp2_with (first|(at_builtin;refine uR rfl _ _ _ rfl qAJ w.heap.size (.slice na ln.length nc) ln.length (tZ ln) rfl b2.out [.string U2,.int .i64 y,.int .i64 z] rfl rfl ?z1 ?z2 ?z3 ?z4 ?_;(case z1=>(intro v hv;simp only[List.mem_cons,List.not_mem_nil,or_false]at hv;rcases hv with rfl|rfl|rfl<;>rfl));(case z2=>(unfold maxLen;omega));(case z3=>(show (ln.length+1) * 32<=140737488355328;omega));(case z4=>exact a0);intro sv cv wM h0 h5 h4;(have H8:=Kh (h6.out.pushN (c:=d) (by rw[H9.out];exact h0) h5 h4));clear h0 h5 h4)|fail);go_wp2;go_roundg (n - (k+1))
    case measure=>have:=h7.out;omega
    case rel=>exact⟨k+1,ya,sv,yc,cv,by have:=h7.out;omega,by go_num,by rw[HY.out],by rw[h1.out,List.length_append];rfl,by rw[HY.out,h1.out];exact H8.out⟩
  ·have a7:k=n:=by have:=h7.out;omega
   have a8:¬ (k:Int)<n:=(by omega);have HE:Hid (l.take k=l):=Kh (List.take_of_length_le (by rw[<- HN.out];omega));rw[HE.out]at HT ⊢;clear a7 hg;go_wp2;refine bodyPost_ret (v:=.tuple #[.slice ya (yesL l p).length yc,.slice na (noL l p).length nc]) (by simp[results,Try.results113,go_sem]) rfl ?_;exact⟨ya,yc,na,nc,rfl,HT.out.y,HT.out.n,HT.out.gr⟩
end Go.Proofs.Ytjfdomfendbhfaa
namespace Go.Proofs.Ytjfdomfendbhfaa
open Go.RowKit Go.Maps
theorem bd_put {Q:Exit->Act->World->Prop}{v1 v2 v3 v4 v5 v6 v7 v8 v9 v10 v13 v14 v15 v16 v17 v18 v19 v20 v21 v22 v23 v24 v25 v26 v27 v28 v29 v30 v31 v32 v33 v34 v35 v36 v37 v38 v39 v40 v41 v42 v43 v44 v45 v46 v47 v48 v49 v50 v51 v52 v53 v54 v55 v56 v57 v58 v59 v60 v61 v62 v63 v64 v65 v66 v67 v68 v69 v70 v71 v72 v73 v74 v75 v76 v77 v78 v79 v80 v81 v82 v83 v84 v85 v86 v87 v88:Value}{dd:_}{w:World}{o mb R q a b m2 u c:Nat}{f:ChoV->Option Nat}{x:ChoV}(hc:w.cell? ⟨o,1,none⟩=some (.map (some mb))/\w.cell? ⟨R,0,none⟩=some (.int .i64 (q:Int))/\w.cell? ⟨R,1,none⟩=some (.int .i64 (a:Int))/\w.cell? ⟨R,2,none⟩=some (.int .i64 (b:Int)))(hM:MapK 45 qAU choW w mb u c f)(hu:u<maxLen)(hxo:qAU x)(hxw:choW x=.agg #[.int .i64 (q:Int),.int .i64 (a:Int),.int .i64 (b:Int)])(hm2:m2<4611686018427387904)(hexit:∀ (z71 z72 z73 z74 z75 z76:Value) (w':World),MapK 45 qAU choW w' mb (u+1) (if (f x).isSome then c else c+1) (fun q=>if q=x then some m2 else f q)->w.grownBy w' (some mb)->Q .normal ⟨((Value.pointer (some ⟨o,0,none⟩))::v1::v2::v3::v4::v5::v6::v7::v8::v9::v10::(Value.pointer (some ⟨R,0,none⟩))::(Value.int .i64 (m2:Int))::v13::v14::v15::v16::v17::v18::v19::v20::v21::v22::v23::v24::v25::v26::v27::v28::v29::v30::v31::v32::v33::v34::v35::v36::v37::v38::v39::v40::v41::v42::v43::v44::v45::v46::v47::v48::v49::v50::v51::v52::v53::v54::v55::v56::v57::v58::v59::v60::v61::v62::v63::v64::v65::v66::v67::v68::v69::v70::z71::z72::z73::z74::z75::z76::v77::v78::v79::v80::v81::v82::v83::v84::v85::v86::v87::v88::[]).toArray,dd⟩ w'):
  Code.wp Try.prog (reg Try.f86 13) Q ⟨((Value.pointer (some ⟨o,0,none⟩))::v1::v2::v3::v4::v5::v6::v7::v8::v9::v10::(Value.pointer (some ⟨R,0,none⟩))::(Value.int .i64 (m2:Int))::v13::v14::v15::v16::v17::v18::v19::v20::v21::v22::v23::v24::v25::v26::v27::v28::v29::v30::v31::v32::v33::v34::v35::v36::v37::v38::v39::v40::v41::v42::v43::v44::v45::v46::v47::v48::v49::v50::v51::v52::v53::v54::v55::v56::v57::v58::v59::v60::v61::v62::v63::v64::v65::v66::v67::v68::v69::v70::v71::v72::v73::v74::v75::v76::v77::v78::v79::v80::v81::v82::v83::v84::v85::v86::v87::v88::[]).toArray,dd⟩ w:=by
 conv=>arg 2;whnf
 obtain⟨w6,h6⟩:∃ w6,w6=w.drew:=⟨_,rfl⟩;have h0:w.grownBy w6 none:=by rw[h6];exact zP w none
 have H0:=Kh h6;have H1:=Kh h0;have HM:=Kh (hM.kept h0 (by simp));have C:Hid (w6.cell? ⟨o,1,none⟩=some (.map (some mb))/\w6.cell? ⟨R,0,none⟩=some (.int .i64 (q:Int))/\w6.cell? ⟨R,1,none⟩=some (.int .i64 (a:Int))/\w6.cell? ⟨R,2,none⟩=some (.int .i64 (b:Int))):=Kh ⟨xG hc.1 h0,xG hc.2.1 h0,xG hc.2.2.1 h0,xG hc.2.2.2 h0⟩;have h9:=Kh hxw;clear h6 h0 hc hM hxw;refine wp_region_noPanic ?_;refine xZ (G:=tG 6 (fun _=>True) (fun W=>W.cell? ⟨o,1,none⟩=some (.map (some mb))/\W.cell? ⟨R,0,none⟩=some (.int .i64 (q:Int))/\W.cell? ⟨R,1,none⟩=some (.int .i64 (a:Int))/\W.cell? ⟨R,2,none⟩=some (.int .i64 (b:Int)))) (by kernel_rfl) ?_;rw[<- H0.out];refine yK 0 ⟨trivial,fun _=>C.out⟩ ?_;refine yK 1 ⟨trivial,fun _=>C.out⟩ ?_;refine yK 2 ⟨trivial,fun _=>C.out⟩ ?_;refine qIA (i:=3) (v:=.map (some mb)) rfl rfl (by kernel_rfl) (by rfl) (by kernel_rfl) (by kernel_rfl) (by kernel_rfl) (fun _ _ _ h=>h) (Or.inl ⟨by rfl,?_⟩) ⟨trivial,fun _=>C.out⟩ ?_
 ·(rintro wz ⟨-,hz⟩;obtain⟨h1,h2,h3,h4⟩:=hz;go_simp;(try with_reducible rfl))
 try simp only[Act.put,sPa,sPb,sPc]
 refine qIA (i:=4) (v:=.agg #[.int .i64 (q:Int),.int .i64 (a:Int),.int .i64 (b:Int)]) rfl rfl (by kernel_rfl) (by rfl) (by kernel_rfl) (by kernel_rfl) (by kernel_rfl) (fun _ _ _ h=>h) (Or.inl ⟨by rfl,?_⟩) ⟨trivial,fun _=>C.out⟩ ?_
 ·(rintro wz ⟨-,hz⟩;obtain⟨h1,h2,h3,h4⟩:=hz;go_simp;(try with_reducible rfl))
 try simp only[Act.put,sPa,sPb,sPc]
 refine yK 5 ⟨trivial,fun _=>C.out⟩ ?_;obtain⟨w7,r7,h5,h8,h7⟩:=HM.out.upd qHG (z:=x) (y:=m2) hu hxo hm2;rw[h9.out]at h5;refine oneG (i:=6) (by kernel_rfl) rfl (fun K hK=>?_);go_simp;clear h5;refine hK.out _ _ ⟨trivial,fun h=>by simp at h⟩ ?_;clear hK K
 try simp only[Act.put,sPa,sPb,sPc]
 refine nE (by kernel_rfl) ?_ _;refine NoPanic.normal ?_;exact hexit _ _ _ _ _ _ _ h8 (xF H1.out h7 (.inl rfl) (.inr (.inl rfl)))
theorem bd_app {Q : Exit → Act → World → Prop}{v1 v2 v3 v4 v5 v6 v7 v8 v9 v10 v12 v13 v14 v15 v16 v17 v18 v19 v20 v21 v22 v23 v24 v25 v26 v27 v28 v29 v30 v31 v32 v33 v34 v35 v36 v37 v38 v39 v40 v41 v42 v43 v44 v45 v46 v47 v48 v49 v50 v51 v52 v53 v54 v55 v56 v57 v58 v59 v60 v61 v62 v63 v64 v65 v66 v67 v68 v69 v70 v71 v72 v73 v74 v75 v76 v77 v78 v79 v80 v81 v82 v83 v84 v85 v86 v87 v88 : Value}{dd : _}{w : World}{B o R q a b m2 cap : Nat}{sa : Option Addr}{xs : List Value}{P : World → Prop}(hc : w.cell? ⟨o, 0, none⟩ = some (.slice sa m2 cap) ∧ w.cell? ⟨R, 0, none⟩ = some (.int .i64 (q : Int)) ∧ w.cell? ⟨R, 1, none⟩ = some (.int .i64 (a : Int)) ∧ w.cell? ⟨R, 2, none⟩ = some (.int .i64 (b : Int)))(ho : w.ownsRow B 45 3 (.slice sa m2 cap) m2 xs)(hB : B ≤ w.heap.size)(hm2 : m2 ≤ 1000000)(hol : o < w.heap.size)(hE : ∀ wg, w.grownBy wg none → ∀ w2 s' c', w2.ownsRow B 45 3 (.slice s' (m2 + 1) c') (m2 + 1) (xs ++ [.int .i64 (q : Int), .int .i64 (a : Int), .int .i64 (b : Int)]) → wg.grownBy w2 (Value.slice sa m2 cap).ownBlock → qP wg w2 (.slice sa m2 cap) (.slice s' (m2 + 1) c') →
   w2.cell? ⟨o, 0, none⟩ = some (.slice sa m2 cap) ∧ w2.frozen? ⟨o, 0, none⟩ = false ∧ P (w2.setCell ⟨o, 0, none⟩ (.slice s' (m2 + 1) c')))(hexit : ∀ (z77 z78 z79 z80 z81 z82 z83 z84 z85 z86 : Value) (w' : World), P w' → Q .normal ⟨((Value.pointer (some ⟨o, 0, none⟩)) :: v1 :: v2 :: v3 :: v4 :: v5 :: v6 :: v7 :: v8 :: v9 :: v10 :: (Value.pointer (some ⟨R, 0, none⟩)) :: v12 :: v13 :: v14 :: v15 :: v16 :: v17 :: v18 :: v19 :: v20 :: v21 :: v22 :: v23 :: v24 :: v25 :: v26 :: v27 :: v28 :: v29 :: v30 :: v31 :: v32 :: v33 :: v34 :: v35 :: v36 :: v37 :: v38 :: v39 :: v40 :: v41 :: v42 :: v43 :: v44 :: v45 :: v46 :: v47 :: v48 :: v49 :: v50 :: v51 :: v52 :: v53 :: v54 :: v55 :: v56 :: v57 :: v58 :: v59 :: v60 :: v61 :: v62 :: v63 :: v64 :: v65 :: v66 :: v67 :: v68 :: v69 :: v70 :: v71 :: v72 :: v73 :: v74 :: v75 :: v76 :: z77 :: z78 :: z79 :: z80 :: z81 :: z82 :: z83 :: z84 :: z85 :: z86 :: v87 :: v88 :: []).toArray, dd⟩ w'):
  Code.wp Try.prog (reg Try.f86 14) Q ⟨((Value.pointer (some ⟨o, 0, none⟩)) :: v1 :: v2 :: v3 :: v4 :: v5 :: v6 :: v7 :: v8 :: v9 :: v10 :: (Value.pointer (some ⟨R, 0, none⟩)) :: v12 :: v13 :: v14 :: v15 :: v16 :: v17 :: v18 :: v19 :: v20 :: v21 :: v22 :: v23 :: v24 :: v25 :: v26 :: v27 :: v28 :: v29 :: v30 :: v31 :: v32 :: v33 :: v34 :: v35 :: v36 :: v37 :: v38 :: v39 :: v40 :: v41 :: v42 :: v43 :: v44 :: v45 :: v46 :: v47 :: v48 :: v49 :: v50 :: v51 :: v52 :: v53 :: v54 :: v55 :: v56 :: v57 :: v58 :: v59 :: v60 :: v61 :: v62 :: v63 :: v64 :: v65 :: v66 :: v67 :: v68 :: v69 :: v70 :: v71 :: v72 :: v73 :: v74 :: v75 :: v76 :: v77 :: v78 :: v79 :: v80 :: v81 :: v82 :: v83 :: v84 :: v85 :: v86 :: v87 :: v88 :: []).toArray, dd⟩ w := by
 conv => arg 2; whnf
 obtain ⟨w8, hw8⟩ : ∃ w8, w8 = w.drew := ⟨_, rfl⟩
 have hg8 : w.grownBy w8 none := by rw [hw8]; exact zP w none
 have HW8 := Kh hw8; have HG8 := Kh hg8
 have HO := Kh ho; have HE := Kh hE
 have C : Hid (w8.cell? ⟨o, 0, none⟩ = some (.slice sa m2 cap) ∧ w8.cell? ⟨R, 0, none⟩ = some (.int .i64 (q : Int)) ∧ w8.cell? ⟨R, 1, none⟩ = some (.int .i64 (a : Int)) ∧ w8.cell? ⟨R, 2, none⟩ = some (.int .i64 (b : Int))) := Kh ⟨xG hc.1 hg8, xG hc.2.1 hg8, xG hc.2.2.1 hg8, xG hc.2.2.2 hg8⟩
 have hz8 : B ≤ w8.heap.size := Nat.le_trans hB hg8.size
 have HOL : Hid (o < w8.heap.size) := Kh (Nat.lt_of_lt_of_le hol hg8.size)
 clear hw8 hg8 hc ho hE hB hol
 refine wp_region_noPanic ?_
 refine xZ (G := tG 7 (fun _ => True) (fun W => W.cell? ⟨o, 0, none⟩ = some (.slice sa m2 cap) ∧ W.cell? ⟨R, 0, none⟩ = some (.int .i64 (q : Int)) ∧ W.cell? ⟨R, 1, none⟩ = some (.int .i64 (a : Int)) ∧ W.cell? ⟨R, 2, none⟩ = some (.int .i64 (b : Int)))) (by kernel_rfl) ?_
 rw [← HW8.out]
 refine yK 0 ⟨trivial, fun _ => C.out⟩ ?_
 refine yK 1 ⟨trivial, fun _ => C.out⟩ ?_
 refine yK 2 ⟨trivial, fun _ => C.out⟩ ?_
 refine yK 3 ⟨trivial, fun _ => C.out⟩ ?_
 refine qIA (i := 4) (v := .slice sa m2 cap) rfl rfl (by kernel_rfl) (by rfl) (by kernel_rfl) (by kernel_rfl) (by kernel_rfl) (fun _ _ _ h => h) (Or.inl ⟨by rfl, ?_⟩) ⟨trivial, fun _ => C.out⟩ ?_
 ·(rintro wz ⟨-, hz⟩; obtain ⟨h1, h2, h3, h4⟩ := hz; go_simp; (try with_reducible rfl))
 try simp only [Act.put, sPa, sPb, sPc]
 obtain ⟨k1, k2, k3, k4⟩ := C.out
 refine oneG (i := 5) (by kernel_rfl) rfl (fun K hK => ?_)
 go_simp
 refine hK.out _ _ ⟨trivial, fun _ => C.out⟩ ?_
 clear hK K k1 k2 k3 k4
 try simp only [Act.put, sPa, sPb, sPc]
 refine oneG (i := 6) (by kernel_rfl) rfl (fun K hK => ?_)
 go_simp
 have hgn := heap_alloc_new w8 (.cells #[.int .i64 (q : Int), .int .i64 (a : Int), .int .i64 (b : Int)] 45)
 have hg9 := Ga w8 (.cells #[.int .i64 (q : Int), .int .i64 (a : Int), .int .i64 (b : Int)] 45) none
 have hz9 := zO w8 (.cells #[.int .i64 (q : Int), .int .i64 (a : Int), .int .i64 (b : Int)] 45)
 obtain ⟨w9, hw9⟩ : ∃ w9, w9 = w8.alloc (.cells #[.int .i64 (q : Int), .int .i64 (a : Int), .int .i64 (b : Int)] 45) := ⟨_, rfl⟩
 obtain ⟨R9, hR9⟩ : ∃ R9, R9 = w8.heap.size := ⟨_, rfl⟩
 rw [← hw9] at hgn hg9 hz9 ⊢
 rw [← hR9] at hgn ⊢
 have HOL9 : Hid (o < w9.heap.size) := Kh (Nat.lt_of_lt_of_le HOL.out hg9.size)
 refine hK.out _ _ ⟨trivial, fun _ => ⟨xG C.out.1 hg9, xG C.out.2.1 hg9, xG C.out.2.2.1 hg9, xG C.out.2.2.2 hg9⟩⟩ ?_
 clear hK K
 try simp only [Act.put, sPa, sPb, sPc]
 have ho9 := zQ HO.out (zD HG8.out hg9)
 refine oneG (i := 7) (by kernel_rfl) rfl (fun K hK => ?_)
 refine tQ rfl (.tmp 81) (.tmp 83) 23 rfl qFI B _ _ _ rfl ho9 [.int .i64 (q : Int), .int .i64 (a : Int), .int .i64 (b : Int)] _ rfl (0, 0) rfl hgn ?g0 ?g1 ?g2 ?g3 ?_
 case g0 => intro v hv; simp only [List.mem_cons, List.not_mem_nil, or_false] at hv; rcases hv with rfl | rfl | rfl <;> rfl
 case g1 => unfold maxLen; omega
 case g2 => show (m2 + 1) * 24 ≤ 140737488355328; omega
 case g3 => rw [hz9]; omega
 intro s2 cap2 wM hownM hgM hmM
 obtain ⟨k0, f0, hbl⟩ := HE.out w9 (zD HG8.out hg9) wM s2 cap2 hownM hgM hmM
 have hol2 : o < wM.heap.size := Nat.lt_of_lt_of_le HOL9.out hgM.size
 refine hK.out _ _ ⟨trivial, fun h => by simp at h⟩ ?_
 clear hK K hownM hgM hmM ho9 hgn hg9 hz9 hw9 hR9 C
 try simp only [Act.put, sPa, sPb, sPc]
 have HBL := Kh hbl
 clear hbl
 refine oneG (i := 8) (by kernel_rfl) rfl (fun K hK => ?_)
 go_simp
 refine hK.out _ _ ⟨trivial, fun h => by simp at h⟩ ?_
 clear hK K
 try simp only [Act.put, sPa, sPb, sPc]
 refine oneG (i := 9) (by kernel_rfl) rfl (fun K hK => ?_)
 go_simp
 refine hK.out _ _ ⟨trivial, fun h => by simp at h⟩ ?_
 clear hK K
 try simp only [Act.put, sPa, sPb, sPc]
 refine oneG (i := 10) (by kernel_rfl) rfl (fun K hK => ?_)
 go_simp
 refine hK.out _ _ ⟨trivial, fun h => by simp at h⟩ ?_
 clear hK K
 try simp only [Act.put, sPa, sPb, sPc]
 refine nE (by kernel_rfl) ?_ _
 refine NoPanic.normal ?_
 exact hexit _ _ _ _ _ _ _ _ _ _ _ HBL.out
end Go.Proofs.Ytjfdomfendbhfaa
