/- Part 19 of the proof: BoxT, BoxR, ProdS, DfaT, DiaIn, DsUp. -/
import Derived.Test.YtjfdomfendbhfaaQe18
import Derived.Deep.DeepCutAuto
import Derived.BigQuiet
set_option linter.unusedVariables false
set_option linter.unusedSimpArgs false
namespace Go.Proofs.Ytjfdomfendbhfaa
open Go.RowKit Go.Maps
section
variable {B:Nat} {X:Nat->Prop} {o ty:Nat} {w0 wk w w':World} {rs:List RowS} {c:Array Value}
theorem BoxS.rebase (h:BoxS B X o ty w0 wk rs c w):BoxS B X o ty w0 w rs c w :=
 ⟨h.mem,h.typ,h.box,h.off,h.size,h.old,Nat.le_trans h.base h.wk,h.grown,wL.refl _ _,Nat.le_refl _⟩
theorem BoxS.fresh (h : BoxS B X o ty w0 wk rs c w) (hg : w.grownBy w' none) {Y : Nat → Prop} (hY : ∀ k, Y k → w.heap.size ≤ k ∧ k < w'.heap.size) : BoxS B (fun k => X k ∨ Y k) o ty w0 w' rs c w' :=
 ⟨h.mem.fresh hg hY, h.typ, zA h.box hg (by simp), fun e => by
  rcases e with e | e
  ·exact h.off e
  ·have := (hY o e).1
   have := zH h.box
   omega, h.size, h.old, Nat.le_trans (Nat.le_trans h.base h.wk) hg.size, zB h.grown hg (by simp), wL.refl _ _, Nat.le_refl _⟩
theorem BoxS.far (h:BoxS B X o ty w0 wk rs c w) {mb:Nat} (hg:w.grownBy w' (some mb)) (hr:∀ r∈rs,r.v.ownBlock≠some mb) (hx:¬ X mb) (ho:o≠mb) (hold:w0.heap.size<=mb):BoxS B X o ty w0 wk rs c w' :=
 ⟨h.mem.far hg hr,h.typ,zA h.box hg (fun e=>ho (Oj e).symm),h.off,h.size,h.old,h.base,zB h.grown hg (fun j e=>by have e:mb=j:=Oj e;omega),h.kept.trans (wL.of_grown h.mem.lt hg (fun j e hxx=>by have e:mb=j:=Oj e;subst e;exact hx hxx)),Nat.le_trans h.wk hg.size⟩
theorem BoxS.appAt (h:BoxS B X o ty w0 wk rs c w) {j:Nat} {r:RowS} (hr:rs[j]?=some r) {v':Value} {n':Nat} {us:List Value} (ho:w'.ownsRow r.base r.e r.sz v' n' (r.xs ++ us)) (hg:w.grownBy w' r.v.ownBlock) (hm:mA w w' r.v v') :
  BoxS B X o ty w0 wk (rs.set j ⟨r.base,r.e,v',n',r.xs ++ us,r.sz⟩) c w':=by
 have h0:=List.mem_of_getElem? hr
 have h1:=h.mem.own _ h0
 have ht:=h.typ _ h0
 have h2:∀ k,r.v.ownBlock=some k->B<=k/\k≠o/\¬ X k:=fun k hk=>⟨by have:=(h1.lt k hk).1;rw[ht.1]at this;exact this,fun e=>by subst e;exact zS h1 h.box ht.2 hk,h.mem.offX r h0 k hk⟩
 refine⟨h.mem.appAt hr ho hg hm,fun s hs=>?_,zA h.box hg (fun e=>(h2 o e).2.1 rfl),h.off,h.size,h.old,h.base,zB h.grown hg (fun k e=>Nat.le_trans h.size (h2 k e).1),h.kept.trans (wL.of_grown h.mem.lt hg (fun k e=>(h2 k e).2.2)),Nat.le_trans h.wk hg.size⟩
 rcases List.mem_or_eq_of_mem_set hs with hs|rfl
 ·exact h.typ s hs
 ·exact ht
theorem BoxS.stand (h : BoxS B X o ty w0 wk rs c w) {mb : Nat} (hb : mb < w.heap.size) (hr : ∀ r ∈ rs, r.v.ownBlock ≠ some mb) (ho : o ≠ mb) : BoxS B (fun q => X q ∨ q = mb) o ty w0 w rs c w :=
  ⟨⟨h.mem.own, h.mem.apart, fun r hr' k hk hx => by
    rcases hx with hx | hx
    · exact h.mem.offX r hr' k hk hx
    · subst hx; exact hr r hr' hk, fun k hk => by
    rcases hk with hk | hk
    · exact h.mem.lt k hk
    · subst hk; exact hb⟩, h.typ, h.box, fun e => by
    rcases e with e | e
    · exact h.off e
    · exact ho e, h.size, h.old, Nat.le_trans h.base h.wk, h.grown, wL.refl _ _, Nat.le_refl _⟩
theorem BoxS.less {X':Nat->Prop} (h:BoxS B X' o ty w0 wk rs c w) (hX:∀ q,X q->X' q):BoxS B X o ty w0 wk rs c w :=
 ⟨⟨h.mem.own,h.mem.apart,fun r hr k hk hx=>h.mem.offX r hr k hk (hX k hx),fun k hk=>h.mem.lt k (hX k hk)⟩,h.typ,h.box,fun e=>h.off (hX o e),h.size,h.old,h.base,h.grown,fun k hk=>h.kept k (hX k hk),h.wk⟩
end
theorem MapK.of_block {α:Type} {kt:TypeId} {V:α->Prop} {kv:α->Value} {w w':World} {b n c:Nat} {f:α->Option Nat} (h:MapK kt V kv w b n c f) (hb:w'.heap[b]?=w.heap[b]?):MapK kt V kv w' b n c f:=by
 obtain⟨D,⟨es,clock,h1,h2⟩,h3⟩:=h
 exact⟨D,⟨es,clock,hb.trans h1,h2⟩,h3⟩
theorem xU {w:World} {base e sz n b:Nat} {v:Value} {xs:List Value} {es:Array (Value × Value)} {clock:Nat} (h:w.ownsRow base e sz v n xs) (hb:∃ es clock,w.heap[b]?=some (.map es clock)):v.ownBlock≠some b:=by
 obtain⟨es,clock,hb⟩:=hb
 rcases h.2 with ⟨h1,_⟩|⟨g,cap,cur,h1,_,hg,_⟩
 ·rw[h1];simp[Value.ownBlock]
 ·rw[h1]
  intro e
  have e:g=b:=by simpa [Value.ownBlock] using e
  subst e
  rw[hb]at hg;simp at hg
theorem RowX.of_new {X:Nat->Prop} {w:World} {g n c:Nat} {f:List Nat} (h:Arr w g 3 (nats f)) (hn:f.length=n) (hc:n<=c) (hm:c<=maxLen) (hX:X g):RowX X 3 w (.slice (some ⟨g,0,none⟩) n c) (nats f):=by
 subst hn
 have:=h.rowT' (cap:=c) (by rw[yB];exact hc) hm
 rw[yB]at this
 exact⟨this,fun k hk=>by simp[Value.ownBlock]at hk;subst hk;exact hX⟩
def numE (els:List (List Nat)) (f:List Nat):Option Nat:=if f∈els then some (els.idxOf f) else none
theorem numE_snoc {els:List (List Nat)} {f:List Nat} (h:f ∉ els):(fun q=>if q=f then some els.length else numE els q)=numE (els ++ [f]):=by
 funext q
 unfold numE
 by_cases e:q=f
 ·subst e
  rw[if_pos rfl,if_pos (by simp),List.idxOf_append,if_neg h];simp
 ·rw[if_neg e]
  by_cases hq:q∈els
  ·rw[if_pos hq,if_pos (by simp[hq]),List.idxOf_append,if_pos hq]
  ·rw[if_neg hq,if_neg (by simp[hq,e])]
theorem make1o {P:Program} {w:World} {ops:Array Oper} {rest:List Oper} {o:Oper} {a:Act} {Q:Exit->Act->World->Prop} (hgd:o.guard=none) (l c:Operand) (t:TypeId) (ho:o.op=.makeSlice t l c)
  {e:TypeId} {z:Value} {bytes:Nat} (E:ElemOk P t e z bytes) (hz:z.cells=#[z]) (kl kc:IntKind) (L C:Int) (n:Nat) (hl:a.eval l=.int kl L) (hc:a.eval c=.int kc C) (hL:L=(n:Int)) (hC:C=(n:Int)) (hb:bytes * n<=281474976710656) (h63:n<=maxLen)
  (h:∀ w',w'.ownsRow w.heap.size e 1 (.slice (some ⟨w.heap.size,0,none⟩) n n) n (List.replicate n z)->w.grownBy w' none->w.heap.size < w'.heap.size->wpList P ops Q rest (a.put o.dst (.slice (some ⟨w.heap.size,0,none⟩) n n)) w'):wpList P ops Q (o :: rest) a w:=by
 obtain⟨i,hi,h1,h2,h3⟩:=info_parts E.hi
 refine wpList_make_full w hgd l c t ho w.heap.size e i z 1 E.ht hi h1 h2 kl kc L C n hl hc hL hC (by rw[h3];exact hb) h63 (Nat.le_refl _) ?_
 intro w' h0 hg
 have ha:=Arr.of_owns h0
 rw[rE hz]at h0
 exact h w' h0 hg ha.lt
end Go.Proofs.Ytjfdomfendbhfaa
namespace Go.Proofs.Ytjfdomfendbhfaa
open Go.RowKit Go.Maps
section
variable {X:Nat->Prop} {B o ty:Nat} {w0 wk w w':World} {rs:List RowS} {c:Array Value}
theorem BoxS.retire {r : RowS} (h : BoxS B X o ty w0 wk (rs ++ [r]) c w) : BoxS B (fun k => X k ∨ r.v.ownBlock = some k) o ty w0 w rs c w :=
 ⟨h.mem.retire, fun s hs => h.typ s (List.mem_append_left _ hs), h.box, fun e => by
  rcases e with e | e
  ·exact h.off e
  ·exact absurd e (zS (h.mem.own r (by simp)) h.box (h.typ r (by simp)).2), h.size, h.old, Nat.le_trans h.base h.wk, h.grown, wL.refl _ _, Nat.le_refl _⟩
end
end Go.Proofs.Ytjfdomfendbhfaa
namespace Go.Proofs.Ytjfdomfendbhfaa
open Go.RowKit Go.Maps
theorem numE_of_mem {els:List (List Nat)} {f:List Nat} (h:f∈els):numE els f=some (els.idxOf f):=if_pos h
theorem numE_not {els:List (List Nat)} {f:List Nat} (h:f ∉ els):numE els f=none:=if_neg h
inductive ProdS (w0:World) (B o mb k np:Nat) (pv:Value) (L:List (List Nat)) (nxl fr bl:List Nat) (m q:Nat) (tl:List RowS) (w:World):Prop
 | mk (X:Nat->Prop) (hs:List Value) (sS sN sF sB:Option Addr) (cS cN cF cB u c:Nat)
  (hB:BoxS B X o 111 w0 w (⟨B,34,.slice sS m cS,m,hs,1⟩ :: ⟨B,3,.slice sN q cN,q,nats nxl,1⟩ :: ⟨B,3,.slice sF m cF,m,nats fr,1⟩ :: ⟨B,3,.slice sB m cB,m,nats bl,1⟩ :: tl) #[.int .i64 (k:Int),pv,.slice sS m cS,.slice sN q cN,.slice sF m cF,.slice sB m cB] w)
  (hE:vM X 3 nats w hs L) (hM:MapK 9 (jZ np) (fun l=>.string (txtT (kb l))) w mb u c (numE L)) (hmx:¬ X mb) (hmb:w0.heap.size<=mb) (hu:u<=m)
  (hl:L.length=m/\nxl.length=q/\fr.length=m/\bl.length=m) (hhs:hs.length=m)
section
variable {w0 w w':World} {B o mb k np m q:Nat} {pv:Value} {L:List (List Nat)} {nxl fr bl:List Nat} {tl:List RowS}
theorem ProdS.grow (h:ProdS w0 B o mb k np pv L nxl fr bl m q tl w) (hg:w.grownBy w' none):ProdS w0 B o mb k np pv L nxl fr bl m q tl w':=by
 obtain⟨X,hs,sS,sN,sF,sB,cS,cN,cF,cB,u,c,hB,hE,hM,h0,h1,hu,hl,h3⟩:=h
 have h2:=hB.mem.keep hg
 exact⟨X,hs,sS,sN,sF,sB,cS,cN,cF,cB,u,c,(hB.grow hg).rebase,hE.kept h2 hg.size,hM.kept hg (by simp),h0,h1,hu,hl,h3⟩
theorem ProdS.facts (h:ProdS w0 B o mb k np pv L nxl fr bl m q tl w):w0.grownBy w none/\B<=w.heap.size/\w0.heap.size<=B/\w0.heap.size<=o/\o < w.heap.size/\L.length=m/\nxl.length=q:=by
 obtain⟨X,hs,sS,sN,sF,sB,cS,cN,cF,cB,u,c,hB,hE,hM,h0,h1,hu,hl,h2⟩:=h
 exact⟨hB.grown,Nat.le_trans hB.base hB.wk,hB.size,hB.old,zH hB.box,hl.1,hl.2.1⟩
theorem ProdS.cells (h:ProdS w0 B o mb k np pv L nxl fr bl m q tl w):∃ sS cS sN cN sF cF sB cB,w.heap[o]?=some (.cells #[.int .i64 (k:Int),pv,.slice sS m cS,.slice sN q cN,.slice sF m cF,.slice sB m cB] 111 (0,0))/\(0 < m->∃ sb,sS=some ⟨sb,0,none⟩/\m<=cS/\cS<=maxLen/\∀ i,i < m->L.getD i []≠[]->∃ g off cap,w.cell? ⟨sb,i,none⟩=some (.slice (some ⟨g,off,none⟩) (L.getD i []).length cap)/\(L.getD i []).length<=cap/\cap<=maxLen/\∀ j,j < (L.getD i []).length->w.cell? ⟨g,off+j,none⟩=some (.int .i64 (((L.getD i []).getD j 0:Nat):Int))):=by
 obtain⟨X,hs,sS,sN,sF,sB,cS,cN,cF,cB,u,c,hB,hE,hM,h9,H0,hu,hl,H1⟩:=h
 refine⟨sS,cS,sN,cN,sF,cF,sB,cB,hB.box,fun h0=>?_⟩
 have ho:=hB.own (r:=⟨B,34,.slice sS m cS,m,hs,1⟩) (by simp)
 simp only at ho
 obtain⟨sb,rfl,h1,h2,ha⟩:=uS ho h0
 refine⟨sb,rfl,h1,h2,fun i hi hne=>?_⟩
 have h4:i < hs.length:=by omega
 have hr:=hE.2 i h4 (by omega)
 have h6:L.getD i []=L[i]'(by omega):=zF (by omega)
 have h3:0 < (nats (L[i]'(by omega))).length:=by
  rw[yB,<- h6]
  exact List.length_pos_iff.2 hne
 rw[h6]
 obtain⟨g,off,cap,e,H2,h5,h8,h7⟩:=hr.1.row.some_ h3
 rw[yB]at e h5
 refine⟨g,off,cap,?_,h5,h8,fun j hj=>h7.nat j hj⟩
 rw[ha.cell i h4,e]
theorem ProdS.map (h:ProdS w0 B o mb k np pv L nxl fr bl m q tl w):∃ u c,u<=m/\MapK 9 (jZ np) (fun l=>.string (txtT (kb l))) w mb u c (numE L):=by
 obtain⟨X,hs,sS,sN,sF,sB,cS,cN,cF,cB,u,c,hB,hE,hM,h0,h1,hu,hl,h2⟩:=h
 exact⟨u,c,hu,hM⟩
theorem ProdS.addRow (h:ProdS w0 B o mb k np pv L nxl fr bl m q [] w) (hg:w.grownBy w' none) {e sz n:Nat} {v:Value} {xs:List Value} (ho:w'.ownsRow w.heap.size e sz v n xs) (he:e≠111) :
  ProdS w0 B o mb k np pv L nxl fr bl m q (⟨B,e,v,n,xs,sz⟩ :: []) w':=by
 obtain⟨X,hs,sS,sN,sF,sB,cS,cN,cF,cB,u,c,hB,hE,hM,h0,h1,hu,hl,h3⟩:=h
 have h2:=hB.mem.keep hg
 exact⟨X,hs,sS,sN,sF,sB,cS,cN,cF,cB,u,c,(hB.add hg ho he).rebase,hE.kept h2 hg.size,hM.kept hg (by simp),h0,h1,hu,hl,h3⟩
theorem ProdS.arr {e rb n cap:Nat} {xs:List Value} (h:ProdS w0 B o mb k np pv L nxl fr bl m q (⟨B,e,.slice (some ⟨rb,0,none⟩) n cap,n,xs,1⟩ :: []) w):Arr w rb e xs:=by
 obtain⟨X,hs,sS,sN,sF,sB,cS,cN,cF,cB,u,c,hB,hE,hM,h0,h1,hu,hl,h2⟩:=h
 exact Arr.of_owns (hB.own (r:=⟨B,e,.slice (some ⟨rb,0,none⟩) n cap,n,xs,1⟩) (by simp))
theorem ProdS.put {e rb n cap i:Nat} {xs:List Value} (h:ProdS w0 B o mb k np pv L nxl fr bl m q (⟨B,e,.slice (some ⟨rb,0,none⟩) n cap,n,xs,1⟩ :: []) w) (hi:i < n) (y:Value) :
  ProdS w0 B o mb k np pv L nxl fr bl m q (⟨B,e,.slice (some ⟨rb,0,none⟩) n cap,n,xs.set i y,1⟩ :: []) (w.setCell ⟨rb,i,none⟩ y):=by
 obtain⟨X,hs,sS,sN,sF,sB,cS,cN,cF,cB,u,c,hB,hE,hM,h2,h3,hu,hl,h5⟩:=h
 have hP:=hB.put (j:=4) rfl hi y
 have h4:=hP.kept
 have h0:=hP.wk
 have h1:rb≠mb:=fun e1=>by
  subst e1
  exact xU (es:=#[]) (clock:=0) (hB.own (r:=⟨B,e,.slice (some ⟨rb,0,none⟩) n cap,n,xs,1⟩) (by simp)) hM.obj rfl
 exact⟨X,hs,sS,sN,sF,sB,cS,cN,cF,cB,u,c,hP.rebase,hE.kept h4 h0,hM.kept (zC w ⟨rb,i,none⟩ y) (fun e=>h1 (Oj e)),h2,h3,hu,hl,h5⟩
end
end Go.Proofs.Ytjfdomfendbhfaa
namespace Go.Proofs.Ytjfdomfendbhfaa
open Go.RowKit
theorem RowT.len_le {B e:Nat} {w:World} {v:Value} {xs:List Value} (h:RowT B e w v xs):xs.length<=maxLen:=h.row.len_le
theorem Mat.of_rowT {w:World} {B e:Nat} {v:Value} {hs:List Value} {t:List (List Int)} (h:RowT B e w v hs) (hr:xS B 3 ints w hs t) (hB:B<=w.heap.size):Mat w.heap.size w v t:=by
 have h0:=hr.1
 rcases h with ⟨rfl,rfl⟩|⟨b,off,cap,cur,m,rfl,hb,hc1,hc2,hg,hcell⟩
 ·exact .inl ⟨_,_,rfl,List.eq_nil_of_length_eq_zero (by simpa using h0.symm)⟩
 ·have h3:∀ x,∃ a c,x < t.length->hs.getD x (.int .i64 0)=.slice a (t.getD x []).length c:=by
   intro x
   by_cases hx:x < t.length
   ·have h1:=hr.2 x (by omega) hx
    obtain⟨a,c,e⟩:=h1.shape
    refine⟨a,c,fun _=>?_⟩
    rw[zF (by omega),e,yO,zF hx]
   ·exact⟨none,0,fun h=>absurd h hx⟩
  obtain⟨A,hA⟩:=Classical.axiomOfChoice h3
  obtain⟨C,hC⟩:=Classical.axiomOfChoice hA
  refine .inr ⟨b,off,cap,A,C,by rw[h0],by omega,hc2,zH hg,zH hg,fun x hx=>?_,fun x hx=>?_⟩
  ·rw[cell_of_row w b (off+x) _ _ _ hg,hcell x (by omega),<- hC x hx,zF (show x < hs.length by omega)]
  ·have h1:=hr.2 x (by omega) hx
   have h2:=hC x hx
   rw[zF (show x < hs.length by omega)]at h2
   rw[<- h2,zF hx]
   exact h1.row.mono hB
def DfaT (w:World) (f nx:Value) (d:DfaV):Prop:=∃ hs,RowT w.heap.size 4 w f (bls d.final)/\RowT w.heap.size 34 w nx hs/\xS w.heap.size 3 ints w hs d.next
section
variable {w w':World} {f nx:Value} {d:DfaV}
theorem DfaT.kept {row:Option Nat} (h:DfaT w f nx d) (hg:w.grownBy w' row) (h1:∀ k,row=some k->zY w 4 k/\zY w 34 k/\zY w 3 k):DfaT w' f nx d:=by
 obtain⟨hs,a,b,c⟩:=h
 exact⟨hs,(a.kept hg (fun k hk=>.inr (h1 k hk).1)).mono hg.size,(b.kept hg (fun k hk=>.inr (h1 k hk).2.1)).mono hg.size,(c.kept hg (fun k hk=>.inr (h1 k hk).2.2)).mono hg.size⟩
theorem DfaT.grow (h:DfaT w f nx d) (hg:w.grownBy w' none):DfaT w' f nx d:=h.kept hg (by simp)
theorem DfaT.zero (w:World):DfaT w (.slice none 0 0) (.slice none 0 0) gL:=⟨[],.inl ⟨rfl,rfl⟩,.inl ⟨rfl,rfl⟩,xS.nil⟩
theorem DfaT.ok (h:DfaT w f nx d):tE w.heap.size w (.agg #[.int .i64 d.letters,.int .i64 d.start,f,nx]) d:=by
 obtain⟨hs,a,b,c⟩:=h
 exact⟨_,_,rfl,a.row,Mat.of_rowT b c (Nat.le_refl _)⟩
end
theorem tA.t {w w':World} {v:Value} {m:DfaV} (h:tA w w' v m):∃ f nx,v=.agg #[.int .i64 m.letters,.int .i64 m.start,f,nx]/\DfaT w' f nx m:=by
 obtain⟨o,hs,sf,cf,sn,cn,rfl,_,hb⟩:=h
 exact⟨_,_,rfl,hs,RowT.of_owns hb.ownF,RowT.of_owns hb.ownN,hb.rows⟩
def bM (w:World) (E:Int) (m:DfaV) (e:Ending) (w':World):Prop:=∃ f nx,e=.returned (.tuple #[.agg #[.int .i64 m.letters,.int .i64 m.start,f,nx],.int .i64 E])/\DfaT w' f nx m/\w.grownBy w' none
theorem xI {w w':World} {p:Addr} {u:Value} (h:w.cell? p=some u) (hg:w.grownBy w' none):w'.cell? p=some u:=(World.cell?_of_block (hg.block p.block (World.block_lt_of_cell? w p h) (by simp))).trans h
def vI (B:Nat) (w:World) (v:Value) (ps:List (List ByteArray)):Prop :=
 ∃ svs,Row B w v svs/\svs.length=ps.length/\∀ i (h1:i < svs.length) (h2:i < ps.length),Row B w svs[i] (txtV ps[i])/\∀ j (hj:j < ps[i].length),ps[i][j].size<=maxLen
section
variable {B:Nat} {w:World} {v:Value} {ps:List (List ByteArray)}
theorem vI.kept {w':World} {row:Option Nat} (h:vI B w v ps) (hg:w.grownBy w' row) (hr:∀ k,row=some k->B<=k):vI B w' v ps:=by
 obtain⟨svs,h1,h2,h3⟩:=h
 exact⟨svs,h1.kept hg hr,h2,fun i h4 h5=>⟨(h3 i h4 h5).1.kept hg hr,(h3 i h4 h5).2⟩⟩
theorem vI.mono {B':Nat} (h:vI B w v ps) (hB:B<=B'):vI B' w v ps:=by
 obtain⟨svs,h1,h2,h3⟩:=h
 exact⟨svs,h1.mono hB,h2,fun i h4 h5=>⟨(h3 i h4 h5).1.mono hB,(h3 i h4 h5).2⟩⟩
theorem vI.shape (h:vI B w v ps):∃ a c,v=.slice a ps.length c:=by
 obtain⟨svs,h1,h2,h3⟩:=h
 obtain⟨a,c,rfl⟩:=h1.shape
 exact⟨a,c,by rw[h2]⟩
theorem vI.len_le (h:vI B w v ps):ps.length<=maxLen:=by
 obtain⟨svs,h1,h2,h3⟩:=h
 rw[<- h2];exact h1.len_le
theorem vI.nil (a:Option Addr) (c:Nat):vI B w (.slice a 0 c) []:=⟨[],.inl ⟨a,c,rfl,rfl⟩,rfl,fun i h=>by simp at h⟩
theorem vI.at_ (h:vI B w v ps) (h0:0 < ps.length):∃ b off cap,v=.slice (some ⟨b,off,none⟩) ps.length cap/\b < B/\ps.length<=cap/\cap<=maxLen /\
  ∀ i,i < ps.length->∃ sa sc,w.cell? ⟨b,off+i,none⟩=some (.slice sa (ps.getD i []).length sc)/\Row B w (.slice sa (ps.getD i []).length sc) (txtV (ps.getD i []))/\∀ j (hj:j < (ps.getD i []).length),(ps.getD i [])[j].size<=maxLen:=by
 obtain⟨svs,h1,h2,h3⟩:=h
 obtain⟨b,off,cap,rfl,hb,hc,hm,h7⟩:=h1.some_ (by omega)
 refine⟨b,off,cap,by rw[h2],hb,by omega,hm,fun i hi=>?_⟩
 have h6:i < svs.length:=by omega
 obtain⟨h4,h5⟩:=h3 i h6 hi
 obtain⟨sa,sc,e⟩:=h4.shape
 rw[yN]at e
 have hc:=h7.2 i h6
 have e2:ps.getD i []=ps[i]:=zF hi
 rw[e2]
 refine⟨sa,sc,by rw[hc,e],by rw[<- e];exact h4,h5⟩
end
structure ChosO (w:World) (g off:Nat) (cs:List ChoV):Prop where
 lt:g < w.heap.size
 p:∀ i,i < cs.length->w.cell? ⟨g,off+i * 3,none⟩=some (.int .i64 (cs.getD i default).p)
 y:∀ i,i < cs.length->w.cell? ⟨g,off+i * 3+1,none⟩=some (.int .i64 (cs.getD i default).y)
 n:∀ i,i < cs.length->w.cell? ⟨g,off+i * 3+2,none⟩=some (.int .i64 (cs.getD i default).n)
theorem ChosO.kept {w w':World} {g off:Nat} {cs:List ChoV} {row:Option Nat} (h:ChosO w g off cs) (hg:w.grownBy w' row) (hr:row≠some g):ChosO w' g off cs:=by
 have hb:=hg.block g h.lt (fun e=>hr e.symm)
 exact⟨Nat.lt_of_lt_of_le h.lt hg.size,fun i hi=>(World.cell?_of_block hb).trans (h.p i hi),fun i hi=>(World.cell?_of_block hb).trans (h.y i hi),fun i hi=>(World.cell?_of_block hb).trans (h.n i hi)⟩
def sC (B:Nat) (w:World) (v:Value) (cs:List ChoV):Prop :=
 (∃ a cap,v=.slice a 0 cap/\cs=[])\/∃ b off cap,v=.slice (some ⟨b,off,none⟩) cs.length cap/\b < B/\cs.length<=cap/\cap<=maxLen/\ChosO w b off cs
section
variable {B:Nat} {w:World} {v:Value} {cs:List ChoV}
theorem sC.kept {w':World} {row:Option Nat} (h:sC B w v cs) (hg:w.grownBy w' row) (hr:∀ k,row=some k->B<=k):sC B w' v cs:=by
 rcases h with h|⟨b,off,cap,h1,h2,h3,h4,h5⟩
 ·exact .inl h
 ·exact .inr ⟨b,off,cap,h1,h2,h3,h4,h5.kept hg (fun e=>by have:=hr b e;omega)⟩
theorem sC.mono {B':Nat} (h:sC B w v cs) (hB:B<=B'):sC B' w v cs:=by
 rcases h with h|⟨b,off,cap,h1,h2,h3⟩
 ·exact .inl h
 ·exact .inr ⟨b,off,cap,h1,by omega,h3⟩
theorem sC.shape (h:sC B w v cs):∃ a c,v=.slice a cs.length c:=by
 rcases h with ⟨a,c,rfl,rfl⟩|⟨b,off,cap,rfl,_⟩
 ·exact⟨a,c,rfl⟩
 ·exact⟨_,_,rfl⟩
theorem sC.len_le (h:sC B w v cs):cs.length<=maxLen:=by
 rcases h with ⟨a,c,rfl,rfl⟩|⟨b,off,cap,rfl,h1,h2,h3,_⟩
 ·exact Nat.zero_le _
 ·omega
theorem sC.at_ (h:sC B w v cs) (h0:0 < cs.length):∃ b off cap,v=.slice (some ⟨b,off,none⟩) cs.length cap/\b < B/\cs.length<=cap/\cap<=maxLen/\ChosO w b off cs:=by
 rcases h with ⟨a,c,rfl,rfl⟩|h
 ·simp at h0
 ·exact h
end
def qG (B:Nat) (w:World) (v:Value) (g:DiaV):Prop:=∃ pv cv,v=.agg #[pv,cv,.int .i64 g.root]/\vI B w pv g.pats/\sC B w cv g.chos
theorem qG.kept {B:Nat} {w w':World} {v:Value} {g:DiaV} {row:Option Nat} (h:qG B w v g) (hg:w.grownBy w' row) (hr:∀ k,row=some k->B<=k):qG B w' v g:=by
 obtain⟨pv,cv,h1,h2,h3⟩:=h
 exact⟨pv,cv,h1,h2.kept hg hr,h3.kept hg hr⟩
theorem qG.mono {B B':Nat} {w:World} {v:Value} {g:DiaV} (h:qG B w v g) (hB:B<=B'):qG B' w v g:=by
 obtain⟨pv,cv,h1,h2,h3⟩:=h
 exact⟨pv,cv,h1,h2.mono hB,h3.mono hB⟩
theorem zJ {w:World} {p e:Nat} {x0 x1 x2:Value} {m:Nat × Nat} (h:w.heap[p]?=some (.cells #[x0,x1,x2] e m)) :
  w.cell? ⟨p,0,none⟩=some x0/\w.cell? ⟨p,1,none⟩=some x1/\w.cell? ⟨p,2,none⟩=some x2:=by
 have c0:=zK h 0 (by simp)
 have c1:=zK h 1 (by simp)
 have c2:=zK h 2 (by simp)
 exact⟨by simpa using c0,by simpa using c1,by simpa using c2⟩
theorem fV:ElemN Try.prog 84 42 4 (.agg #[.int .i64 0,.int .i64 0,.slice none 0 0,.slice none 0 0]) 64:=⟨by kernel_rfl,by kernel_rfl,by rfl,by decide⟩
def dval (x:DfaV × Value × Value):List Value:=[.int .i64 x.1.letters,.int .i64 x.1.start,x.2.1,x.2.2]
def mO (l:List (DfaV × Value × Value)):List Value:=l.flatMap dval
theorem dvals_snoc (l:List (DfaV × Value × Value)) (x:DfaV × Value × Value):mO (l ++ [x])=mO l ++ dval x:=by simp[mO]
theorem cL:∀ (l:List (DfaV × Value × Value)) (i:Nat) (h:i < l.length),(mO l)[i * 4]?=some (.int .i64 l[i].1.letters)/\(mO l)[i * 4+1]?=some (.int .i64 l[i].1.start)/\(mO l)[i * 4+2]?=some l[i].2.1/\(mO l)[i * 4+3]?=some l[i].2.2
 | [],i,h=>by simp at h
 | x :: l,0,_=>⟨rfl,rfl,rfl,rfl⟩
 | x :: l,i+1,h=>by
  have h1:=cL l i (by simpa using h)
  have e:mO (x :: l)=.int .i64 x.1.letters :: .int .i64 x.1.start :: x.2.1 :: x.2.2 :: mO l:=rfl
  rw[e,show (i+1) * 4=i * 4+1+1+1+1 by omega]
  rw[show i * 4+1+1+1+1+1=(i * 4+1)+1+1+1+1 by omega,show i * 4+1+1+1+1+2=(i * 4+2)+1+1+1+1 by omega,show i * 4+1+1+1+1+3=(i * 4+3)+1+1+1+1 by omega]
  simpa using h1
structure DsUp (base:Nat) (w:World) (v:Value) (l:List (DfaV × Value × Value)):Prop where
 own:w.ownsRow base 42 4 v l.length (mO l)
 ok:∀ x∈l,DfaT w x.2.1 x.2.2 x.1
section
variable {base:Nat} {w w':World} {v:Value} {l:List (DfaV × Value × Value)}
theorem DsUp.grow (h:DsUp base w v l) (hg:w.grownBy w' none):DsUp base w' v l:=⟨zQ h.own hg,fun x hx=>(h.ok x hx).grow hg⟩
theorem DsUp.other {n:Nat} {xs:List Value} (h:w.ownsRow base 42 4 v n xs):∀ k,v.ownBlock=some k->zY w 4 k/\zY w 34 k/\zY w 3 k:=fun k hk=>⟨yI h (by decide) k hk,yI h (by decide) k hk,yI h (by decide) k hk⟩
theorem DsUp.push {v' : Value} {x : DfaV × Value × Value} (h : DsUp base w v l) (hx : DfaT w x.2.1 x.2.2 x.1) (ho : w'.ownsRow base 42 4 v' (l.length + 1) (mO l ++ dval x)) (hg : w.grownBy w' v.ownBlock) : DsUp base w' v' (l ++ [x]) :=
 ⟨by rw [dvals_snoc, List.length_append]; exact ho, fun y hy => by
  have hot : ∀ k, v.ownBlock = some k → zY w 4 k ∧ zY w 34 k ∧ zY w 3 k := DsUp.other h.own
  rcases List.mem_append.1 hy with hy | hy
  ·exact (h.ok y hy).kept hg hot
  ·simp at hy; subst hy; exact hx.kept hg hot⟩
end
structure DsO (B:Nat) (w:World) (g off:Nat) (ds:List DfaV):Prop where
 lt:g < w.heap.size
 gB:g < B
 at_:∀ i,i < ds.length->∃ f nx,w.cell? ⟨g,off+i * 4,none⟩=some (.int .i64 (ds.getD i dN).letters)/\w.cell? ⟨g,off+i * 4+1,none⟩=some (.int .i64 (ds.getD i dN).start)/\w.cell? ⟨g,off+i * 4+2,none⟩=some f/\w.cell? ⟨g,off+i * 4+3,none⟩=some nx/\tE B w (.agg #[.int .i64 (ds.getD i dN).letters,.int .i64 (ds.getD i dN).start,f,nx]) (ds.getD i dN)
theorem DsO.kept {B:Nat} {w w':World} {g off:Nat} {ds:List DfaV} {row:Option Nat} (h:DsO B w g off ds) (hg:w.grownBy w' row) (hr:∀ k,row=some k->B<=k):DsO B w' g off ds:=by
 have hb:=hg.block g h.lt (fun e=>by have:=hr g e.symm;have:=h.gB;omega)
 refine⟨Nat.lt_of_lt_of_le h.lt hg.size,h.gB,fun i hi=>?_⟩
 obtain⟨f,nx,h1,h2,h3,h4,h5⟩:=h.at_ i hi
 exact⟨f,nx,(World.cell?_of_block hb).trans h1,(World.cell?_of_block hb).trans h2,(World.cell?_of_block hb).trans h3,(World.cell?_of_block hb).trans h4,h5.kept hg hr⟩
def DsIn (B:Nat) (w:World) (v:Value) (ds:List DfaV):Prop :=
 (∃ a cap,v=.slice a 0 cap/\ds=[])\/∃ b off cap,v=.slice (some ⟨b,off,none⟩) ds.length cap/\ds.length<=cap/\cap<=maxLen/\DsO B w b off ds
theorem DsIn.kept {B:Nat} {w w':World} {v:Value} {ds:List DfaV} {row:Option Nat} (h:DsIn B w v ds) (hg:w.grownBy w' row) (hr:∀ k,row=some k->B<=k):DsIn B w' v ds:=by
 rcases h with h|⟨b,off,cap,h1,h2,h3,h4⟩
 ·exact .inl h
 ·exact .inr ⟨b,off,cap,h1,h2,h3,h4.kept hg hr⟩
theorem DsIn.shape {B:Nat} {w:World} {v:Value} {ds:List DfaV} (h:DsIn B w v ds):∃ a c,v=.slice a ds.length c:=by
 rcases h with ⟨a,c,rfl,rfl⟩|⟨b,off,cap,rfl,_⟩
 ·exact⟨a,c,rfl⟩
 ·exact⟨_,_,rfl⟩
theorem DsIn.head {B:Nat} {w:World} {v:Value} {ds:List DfaV} (h:DsIn B w v ds) (h0:0 < ds.length):∃ b off cap,v=.slice (some ⟨b,off,none⟩) ds.length cap/\ds.length<=cap/\cap<=maxLen/\DsO B w b off ds:=by
 rcases h with ⟨a,c,rfl,rfl⟩|h
 ·simp at h0
 ·exact h
theorem DsUp.in_ {base:Nat} {w:World} {v:Value} {l:List (DfaV × Value × Value)} (h:DsUp base w v l):DsIn w.heap.size w v (l.map (·.1)):=by
 have h5:∀ g j,(⟨g,0,none⟩:Addr).add j=⟨g,j,none⟩:=fun g j=>by unfold Addr.add;split <;> simp_all
 rcases h.own.2 with ⟨rfl,h0⟩|⟨g,cap,cur,rfl,hb,hg,hnc,hcm,_⟩
 ·exact .inl ⟨_,_,rfl,by rw[List.map_eq_nil_iff];exact List.eq_nil_of_length_eq_zero h0⟩
 ·refine .inr ⟨g,0,cap,by rw[List.length_map],by rw[List.length_map];exact hnc,hcm,zH hg,zH hg,fun i hi=>?_⟩
  rw[List.length_map]at hi
  obtain⟨h1,h2,h3,h4⟩:=cL l i hi
  have c1:=h.own.cells (g:=g) rfl _ _ h1
  have c2:=h.own.cells (g:=g) rfl _ _ h2
  have c3:=h.own.cells (g:=g) rfl _ _ h3
  have c4:=h.own.cells (g:=g) rfl _ _ h4
  rw[h5]at c1 c2 c3 c4
  have e:(l.map (·.1)).getD i dN=l[i].1:=by rw[zF (by simpa using hi)];simp
  rw[e,Nat.zero_add]
  exact⟨_,_,c1,c2,c3,c4,(h.ok _ (List.getElem_mem hi)).ok⟩
theorem make0N {P:Program} {w:World} {ops:Array Oper} {rest:List Oper} {o:Oper} {a:Act} {Q:Exit->Act->World->Prop} (hgd:o.guard=none) (l c:Operand) (t:TypeId) (ho:o.op=.makeSlice t l c)
  {e:TypeId} {sz:Nat} {z:Value} {bytes:Nat} (E:ElemN P t e sz z bytes) (kl kc:IntKind) (C:Int) (n:Nat) (hl:a.eval l=.int kl 0) (hc:a.eval c=.int kc C) (hC:C=(n:Int)) (hb:bytes * n<=281474976710656) (h63:n<=maxLen)
  (h:∀ w',w'.ownsRow w.heap.size e sz (.slice (some ⟨w.heap.size,0,none⟩) 0 n) 0 []->w.grownBy w' none->wpList P ops Q rest (a.put o.dst (.slice (some ⟨w.heap.size,0,none⟩) 0 n)) w'):wpList P ops Q (o :: rest) a w:=by
 obtain⟨i,hi,h0,h1,h2⟩:=info_parts E.hi
 exact wpList_make_own w hgd l c t ho w.heap.size e i z sz E.ht hi h0 h1 kl kc C n hl hc hC (by rw[h2];exact hb) h63 (Nat.le_refl _) h
end Go.Proofs.Ytjfdomfendbhfaa
