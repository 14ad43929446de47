/- Part 10 of the proof. -/
import Derived.Test.YtjfdomfendbhfaaQg9
import Derived.Deep.DeepCutAuto
import Derived.BigQuiet
set_option linter.unusedVariables false
set_option linter.unusedSimpArgs false
set_option maxRecDepth 100000
set_option maxHeartbeats 16000000
namespace Go.Proofs.Ytjfdomfendbhfaa
def nxtT (ds:List DfaV)(x:List Nat)(a:Nat):List Nat:=(List.range ds.length).map fun i=>nx (ds.getD i ⟨0,0,[],[]⟩) (x.getD i 0) a
def st0T (ds:List DfaV):List Nat:=ds.map st0
def dN:DfaV:=⟨0,0,[],[]⟩
theorem oF (ds:List DfaV)(x:List Nat)(a:Nat):(nxtT ds x a).length=ds.length:=by simp[nxtT]
theorem sJ (ds:List DfaV):(st0T ds).length=ds.length:=by simp[st0T]
theorem hH {ds:List DfaV}{x:List Nat}{a i:Nat}(hi:i<ds.length):(nxtT ds x a).getD i 0=nx (ds.getD i dN) (x.getD i 0) a:=by
 rw[zG (by rw[oF];exact hi)];simp[nxtT,dN]
theorem iX {ds:List DfaV}{i:Nat}(hi:i<ds.length):(st0T ds).getD i 0=st0 (ds.getD i dN):=by
 rw[zG (by rw[sJ];exact hi),zG hi];simp[st0T]
theorem qAC {ds:List DfaV}{i:Nat}(hi:i<ds.length):∀ (w:List Nat) (x:List Nat),(sI (nxtT ds) x w).getD i 0=run (ds.getD i dN) (x.getD i 0) w
 | [],x=>rfl
 | a::w,x=>by
  show (sI (nxtT ds) (nxtT ds x a) w).getD i 0=run (ds.getD i dN) (nx (ds.getD i dN) (x.getD i 0) a) w
  rw[qAC hi w,hH hi]
def accT (ds:List DfaV)(x:List Nat)(i:Nat):Bool:=(ds.getD i dN).final.getD (x.getD i 0) false
theorem vY {ds:List DfaV}{i:Nat}(hi:i<ds.length)(w:List Nat):accT ds (sI (nxtT ds) (st0T ds) w) i=acc (ds.getD i dN) (st0 (ds.getD i dN)) w:=by
 unfold accT acc;rw[qAC hi,iX hi]
def OkT (ds:List DfaV)(k:Nat):Prop:=∀ i,i<ds.length->∃ n,VD (ds.getD i dN) n k/\n<=512
def InT (ds:List DfaV)(x:List Nat):Prop:=x.length=ds.length/\∀ i,i<ds.length->x.getD i 0<(ds.getD i dN).final.length
theorem OkT.in0 {ds:List DfaV}{k:Nat}(h:OkT ds k):InT ds (st0T ds):=⟨sJ ds,fun i hi=>by
 obtain⟨n,hv,_⟩:=h i hi
 rw[iX hi,hv.hn];exact oT hv⟩
theorem OkT.next {ds:List DfaV}{k:Nat}(h:OkT ds k){x:List Nat}(hx:InT ds x){a:Nat}(ha:a<k):InT ds (nxtT ds x a):=⟨oF ds x a,fun i hi=>by
 obtain⟨n,hv,_⟩:=h i hi
 have h1:=hx.2 i hi
 rw[hv.hn]at h1 ⊢
 rw[hH hi];exact nO hv h1 ha⟩
theorem OkT.small {ds:List DfaV}{k:Nat}(h:OkT ds k){x:List Nat}(hx:InT ds x):∀ i,i<ds.length->x.getD i 0<512:=fun i hi=>by
 obtain⟨n,hv,h5⟩:=h i hi
 have h1:=hx.2 i hi
 rw[hv.hn]at h1;omega
theorem OkT.walk {ds:List DfaV}{k:Nat}(h:OkT ds k):∀ (w:List Nat) {x:List Nat},InT ds x->yJ k w->InT ds (sI (nxtT ds) x w)
 | [],x,hx,_=>hx
 | a::w,x,hx,hw=>OkT.walk h w (h.next hx (hw a (by simp))) (fun b hb=>hw b (List.mem_cons_of_mem _ hb))
def qHF (ds:List DfaV)(k:Nat):Prop:=∃ l,BfsD (nxtT ds) k (st0T ds) l/\l.length<=4000
def Over (ds:List DfaV)(k:Nat):Prop:=∃ l:List (List Nat),l.Nodup/\(∀ x∈l,∃ w,yJ k w/\sI (nxtT ds) (st0T ds) w=x)/\4000<l.length
theorem pG {ds:List DfaV}{k:Nat}(h:qHF ds k)(h':Over ds k):False:=by
 obtain⟨l,hl,h1⟩:=h;obtain⟨m,hm,hr,h2⟩:=h';have:=hl.sub hm hr;omega
theorem BfsI.over {ds:List DfaV}{k i a:Nat}{l:List (List Nat)}(h:BfsI (nxtT ds) k (st0T ds) l i a)(hl:l.length=4000)(ha:a<k){x:List Nat}(hx:l[i]?=some x)(hm:nxtT ds x a ∉ l):Over ds k:=by
 have:=h.new ha hx hm;exact⟨_,this.nd,this.re,by simp;omega⟩
def Conf (ds:List DfaV)(np k:Nat):Prop:=∃ u v,yJ k u/\yJ k v/\(∀ i,i<np->acc (ds.getD i dN) (st0 (ds.getD i dN)) u=acc (ds.getD i dN) (st0 (ds.getD i dN)) v)/\acc (ds.getD np dN) (st0 (ds.getD np dN)) u=true/\acc (ds.getD np dN) (st0 (ds.getD np dN)) v=false
def mtsT (ds:List DfaV)(np:Nat)(x:List Nat):List Bool:=(List.range np).map fun i=>accT ds x i
theorem oH (ds:List DfaV)(np:Nat)(x:List Nat):(mtsT ds np x).length=np:=by simp[mtsT]
theorem hJ {ds:List DfaV}{np i:Nat}{x:List Nat}(hi:i<np):(mtsT ds np x).getD i false=accT ds x i:=by
 rw[zG (by rw[oH];exact hi)];simp[mtsT]
theorem qGA {ds:List DfaV}{np:Nat}{x y:List Nat}:mtsT ds np x=mtsT ds np y ↔ ∀ i,i<np->accT ds x i=accT ds y i:=by
 constructor
 ·intro h i hi
  rw[<- hJ hi,h,hJ hi]
 ·intro h
  exact List.map_congr_left fun i hi=>h i (List.mem_range.1 hi)
theorem mP {ds:List DfaV}{np k:Nat}(hn:np<ds.length){l:List (List Nat)}(h:BfsD (nxtT ds) k (st0T ds) l):Conf ds np k ↔ ∃ x y,x∈l/\y∈l/\mtsT ds np x=mtsT ds np y/\accT ds x np=true/\accT ds y np=false:=by
 constructor
 ·rintro ⟨u,v,hu,hv,h1,h2,h3⟩
  refine⟨_,_,h.all u h.mem0 hu,h.all v h.mem0 hv,qGA.2 fun i hi=>?_,?_,?_⟩
  ·rw[vY (by omega),vY (by omega)];exact h1 i hi
  ·rw[vY hn];exact h2
  ·rw[vY hn];exact h3
 ·rintro ⟨x,y,hx,hy,h1,h2,h3⟩
  obtain⟨u,hu,rfl⟩:=h.re x hx;obtain⟨v,hv,rfl⟩:=h.re y hy;refine⟨u,v,hu,hv,fun i hi=>?_,?_,?_⟩
  ·have:=qGA.1 h1 i hi
   rwa [vY (by omega),vY (by omega)]at this
  ·rwa [vY hn]at h2
  ·rwa [vY hn]at h3
open Go.Maps Go.RowKit
theorem fL {els:List (List Nat)}{f:List Nat}(h:f∈els):numE els f=some (els.idxOf f):=if_pos h
theorem qDZ {els:List (List Nat)}{f:List Nat}(h:f ∉ els):numE els f=none:=if_neg h
inductive ProdS (w0:World)(B o mb k np:Nat)(pv:Value)(L:List (List Nat))(nxl fr bl:List Nat)(m q:Nat)(tl:List RowS)(w:World):Prop
 | mk (X:Nat->Prop) (hs:List Value) (sS sN sF sB:Option Addr) (cS cN cF cB u c:Nat)
  (hB:BoxS B X o 111 w0 w (⟨B,34,.slice sS m cS,m,hs,1⟩::⟨B,3,.slice sN q cN,q,nats nxl,1⟩::⟨B,3,.slice sF m cF,m,nats fr,1⟩::⟨B,3,.slice sB m cB,m,nats bl,1⟩::tl) #[.int .i64 (k:Int),pv,.slice sS m cS,.slice sN q cN,.slice sF m cF,.slice sB m cB] w)
  (hE:uE X 3 nats w hs L) (hM:MapK 9 (qD np) (fun l=>.string (txtT (kb l))) w mb u c (numE L)) (hmx:¬ X mb) (hmb:w0.heap.size<=mb) (hu:u<=m)
  (hl:L.length=m/\nxl.length=q/\fr.length=m/\bl.length=m) (hhs:hs.length=m)
section
variable {w0 w w':World} {B o mb k np m q:Nat} {pv:Value} {L:List (List Nat)} {nxl fr bl:List Nat} {tl:List RowS}
theorem ProdS.grow (h:ProdS w0 B o mb k np pv L nxl fr bl m q tl w)(hg:w.grownBy w' none):ProdS w0 B o mb k np pv L nxl fr bl m q tl w':=by
 obtain⟨X,hs,sS,sN,sF,sB,cS,cN,cF,cB,u,c,hB,hE,hM,h0,h1,hu,hl,h3⟩:=h;have h2:=hB.mem.keep hg;exact⟨X,hs,sS,sN,sF,sB,cS,cN,cF,cB,u,c,(hB.grow hg).rebase,hE.kept h2 hg.size,hM.kept hg (by simp),h0,h1,hu,hl,h3⟩
theorem ProdS.facts (h:ProdS w0 B o mb k np pv L nxl fr bl m q tl w):w0.grownBy w none/\B<=w.heap.size/\w0.heap.size<=B/\w0.heap.size<=o/\o<w.heap.size/\L.length=m/\nxl.length=q:=by
 obtain⟨X,hs,sS,sN,sF,sB,cS,cN,cF,cB,u,c,hB,hE,hM,h0,h1,hu,hl,h2⟩:=h;exact⟨hB.grown,Nat.le_trans hB.base hB.wk,hB.size,hB.old,zK hB.box,hl.1,hl.2.1⟩
theorem ProdS.cells (h:ProdS w0 B o mb k np pv L nxl fr bl m q tl w):∃ sS cS sN cN sF cF sB cB,w.heap[o]?=some (.cells #[.int .i64 (k:Int),pv,.slice sS m cS,.slice sN q cN,.slice sF m cF,.slice sB m cB] 111 (0,0))/\(0<m->∃ sb,sS=some ⟨sb,0,none⟩/\m<=cS/\cS<=maxLen/\∀ i,i<m->L.getD i []≠[]->∃ g off cap,w.cell? ⟨sb,i,none⟩=some (.slice (some ⟨g,off,none⟩) (L.getD i []).length cap)/\(L.getD i []).length<=cap/\cap<=maxLen/\∀ j,j<(L.getD i []).length->w.cell? ⟨g,off+j,none⟩=some (.int .i64 (((L.getD i []).getD j 0:Nat):Int))):=by
 obtain⟨X,hs,sS,sN,sF,sB,cS,cN,cF,cB,u,c,hB,hE,hM,h9,H0,hu,hl,H1⟩:=h;refine⟨sS,cS,sN,cN,sF,cF,sB,cB,hB.box,fun h0=>?_⟩;have ho:=hB.own (r:=⟨B,34,.slice sS m cS,m,hs,1⟩) (by simp);simp only at ho;obtain⟨sb,rfl,h1,h2,ha⟩:=yW ho h0;refine⟨sb,rfl,h1,h2,fun i hi hne=>?_⟩;have h4:i<hs.length:=by omega
 have hr:=hE.2 i h4 (by omega);have h6:L.getD i []=L[i]'(by omega):=zG (by omega)
 have h3:0<(nats (L[i]'(by omega))).length:=by
  rw[zT,<- h6];exact List.length_pos_iff.2 hne
 rw[h6];obtain⟨g,off,cap,e,H2,h5,h8,h7⟩:=hr.1.row.some_ h3;rw[zT]at e h5;refine⟨g,off,cap,?_,h5,h8,fun j hj=>h7.nat j hj⟩;rw[ha.cell i h4,e]
theorem ProdS.map (h:ProdS w0 B o mb k np pv L nxl fr bl m q tl w):∃ u c,u<=m/\MapK 9 (qD np) (fun l=>.string (txtT (kb l))) w mb u c (numE L):=by
 obtain⟨X,hs,sS,sN,sF,sB,cS,cN,cF,cB,u,c,hB,hE,hM,h0,h1,hu,hl,h2⟩:=h;exact⟨u,c,hu,hM⟩
theorem ProdS.addRow (h:ProdS w0 B o mb k np pv L nxl fr bl m q [] w)(hg:w.grownBy w' none){e sz n:Nat}{v:Value}{xs:List Value}(ho:w'.ownsRow w.heap.size e sz v n xs)(he:e≠111):ProdS w0 B o mb k np pv L nxl fr bl m q (⟨B,e,v,n,xs,sz⟩::[]) w':=by
 obtain⟨X,hs,sS,sN,sF,sB,cS,cN,cF,cB,u,c,hB,hE,hM,h0,h1,hu,hl,h3⟩:=h;have h2:=hB.mem.keep hg;exact⟨X,hs,sS,sN,sF,sB,cS,cN,cF,cB,u,c,(hB.add hg ho he).rebase,hE.kept h2 hg.size,hM.kept hg (by simp),h0,h1,hu,hl,h3⟩
theorem ProdS.arr {e rb n cap:Nat}{xs:List Value}(h:ProdS w0 B o mb k np pv L nxl fr bl m q (⟨B,e,.slice (some ⟨rb,0,none⟩) n cap,n,xs,1⟩::[]) w):Arr w rb e xs:=by
 obtain⟨X,hs,sS,sN,sF,sB,cS,cN,cF,cB,u,c,hB,hE,hM,h0,h1,hu,hl,h2⟩:=h;exact Arr.of_owns (hB.own (r:=⟨B,e,.slice (some ⟨rb,0,none⟩) n cap,n,xs,1⟩) (by simp))
theorem ProdS.put {e rb n cap i:Nat}{xs:List Value}(h:ProdS w0 B o mb k np pv L nxl fr bl m q (⟨B,e,.slice (some ⟨rb,0,none⟩) n cap,n,xs,1⟩::[]) w)(hi:i<n)(y:Value):ProdS w0 B o mb k np pv L nxl fr bl m q (⟨B,e,.slice (some ⟨rb,0,none⟩) n cap,n,xs.set i y,1⟩::[]) (w.setCell ⟨rb,i,none⟩ y):=by
 obtain⟨X,hs,sS,sN,sF,sB,cS,cN,cF,cB,u,c,hB,hE,hM,h2,h3,hu,hl,h5⟩:=h;have hP:=hB.put (j:=4) rfl hi y;have h4:=hP.kept;have h0:=hP.wk
 have h1:rb≠mb:=fun e1=>by
  subst e1;exact yD (es:=#[]) (clock:=0) (hB.own (r:=⟨B,e,.slice (some ⟨rb,0,none⟩) n cap,n,xs,1⟩) (by simp)) hM.obj rfl
 exact⟨X,hs,sS,sN,sF,sB,cS,cN,cF,cB,u,c,hP.rebase,hE.kept h4 h0,hM.kept (zC w ⟨rb,i,none⟩ y) (fun e=>h1 (Oj e)),h2,h3,hu,hl,h5⟩
end
end Go.Proofs.Ytjfdomfendbhfaa
namespace Go.Proofs.Ytjfdomfendbhfaa
open Go.RowKit
theorem Mat.of_rowT {w:World}{B e:Nat}{v:Value}{hs:List Value}{t:List (List Int)}(h:RowT B e w v hs)(hr:wH B 3 ints w hs t)(hB:B<=w.heap.size):Mat w.heap.size w v t:=by
 have h0:=hr.1;rcases h with ⟨rfl,rfl⟩|⟨b,off,cap,cur,m,rfl,hb,hc1,hc2,hg,hcell⟩
 ·exact .inl ⟨_,_,rfl,List.eq_nil_of_length_eq_zero (by simpa using h0.symm)⟩
 ·have h3:∀ x,∃ a c,x<t.length->hs.getD x (.int .i64 0)=.slice a (t.getD x []).length c:=by
   intro x;by_cases hx:x<t.length
   ·have h1:=hr.2 x (by omega) hx
    obtain⟨a,c,e⟩:=h1.shape;refine⟨a,c,fun _=>?_⟩;rw[zG (by omega),e,yE,zG hx]
   ·exact⟨none,0,fun h=>absurd h hx⟩
  obtain⟨A,hA⟩:=Classical.axiomOfChoice h3;obtain⟨C,hC⟩:=Classical.axiomOfChoice hA;refine .inr ⟨b,off,cap,A,C,by rw[h0],by omega,hc2,zK hg,zK hg,fun x hx=>?_,fun x hx=>?_⟩
  ·rw[cell_of_row w b (off+x) _ _ _ hg,hcell x (by omega),<- hC x hx,zG (show x<hs.length by omega)]
  ·have h1:=hr.2 x (by omega) hx
   have h2:=hC x hx;rw[zG (show x<hs.length by omega)]at h2;rw[<- h2,zG hx];exact h1.row.mono hB
def DfaT (w:World)(f nx:Value)(d:DfaV):Prop:=∃ hs,RowT w.heap.size 4 w f (bls d.final)/\RowT w.heap.size 34 w nx hs/\wH w.heap.size 3 ints w hs d.next
section
variable {w w':World} {f nx:Value} {d:DfaV}
theorem DfaT.kept {row:Option Nat}(h:DfaT w f nx d)(hg:w.grownBy w' row)(h1:∀ k,row=some k->yH w 4 k/\yH w 34 k/\yH w 3 k):DfaT w' f nx d:=by
 obtain⟨hs,a,b,c⟩:=h;exact⟨hs,(a.kept hg (fun k hk=>.inr (h1 k hk).1)).mono hg.size,(b.kept hg (fun k hk=>.inr (h1 k hk).2.1)).mono hg.size,(c.kept hg (fun k hk=>.inr (h1 k hk).2.2)).mono hg.size⟩
theorem DfaT.grow (h:DfaT w f nx d)(hg:w.grownBy w' none):DfaT w' f nx d:=h.kept hg (by simp)
theorem DfaT.zero (w:World):DfaT w (.slice none 0 0) (.slice none 0 0) qHB:=⟨[],.inl ⟨rfl,rfl⟩,.inl ⟨rfl,rfl⟩,wH.nil⟩
theorem DfaT.ok (h:DfaT w f nx d):uW w.heap.size w (.agg #[.int .i64 d.letters,.int .i64 d.start,f,nx]) d:=by
 obtain⟨hs,a,b,c⟩:=h;exact⟨_,_,rfl,a.row,Mat.of_rowT b c (Nat.le_refl _)⟩
end
theorem pT.t {w w':World}{v:Value}{m:DfaV}(h:pT w w' v m):∃ f nx,v=.agg #[.int .i64 m.letters,.int .i64 m.start,f,nx]/\DfaT w' f nx m:=by
 obtain⟨o,hs,sf,cf,sn,cn,rfl,_,hb⟩:=h;exact⟨_,_,rfl,hs,RowT.of_owns hb.ownF,RowT.of_owns hb.ownN,hb.rows⟩
def aW (w:World)(E:Int)(m:DfaV)(e:Ending)(w':World):Prop:=∃ f nx,e=.returned (.tuple #[.agg #[.int .i64 m.letters,.int .i64 m.start,f,nx],.int .i64 E])/\DfaT w' f nx m/\w.grownBy w' none
def sG (bs:List ByteArray):Nat:=(bs.map (·.size)).sum
def uU (n:Nat)(letters:Int)(i:Nat)(u:ByteArray):Bool:=zY u letters && !(decide (0<i/\i+1<n) && u.toList.isEmpty)
def wX (n:Nat)(letters:Int):Nat->List ByteArray->Bool
 | _,[]=>true
 | i,u::us=>uU n letters i u && wX n letters (i+1) us
def yM (bs:List ByteArray)(letters:Int):Int :=
 if letters<1\/6<letters then 1 else if 8<bs.length then 3 else if 64<sG bs then 3
 else if bs.length=0 then 22 else if wX bs.length letters 0 bs then 0 else 22
theorem dP (bs:List ByteArray)(k:Nat)(hk:k<bs.length):sG (bs.take (k+1))=sG (bs.take k)+bs[k].size:=by
 rw[List.take_succ_eq_append_getElem hk];simp only[sG,List.map_append,List.sum_append];simp
theorem fE (bs:List ByteArray)(letters:Int)(j:Nat)(hj:j<bs.length):wX bs.length letters j (bs.drop j)=(uU bs.length letters j bs[j] && wX bs.length letters (j+1) (bs.drop (j+1))):=by
 rw[List.drop_eq_getElem_cons hj];rfl
theorem fD {bs:List ByteArray}{letters:Int}{j:Nat}(hj:j<bs.length)(hb:uU bs.length letters j bs[j]=true)(h:wX bs.length letters j (bs.drop j)=wX bs.length letters 0 bs):wX bs.length letters (j+1) (bs.drop (j+1))=wX bs.length letters 0 bs:=by
 rw[<- h,fE bs letters j hj,hb,Bool.true_and]
theorem cW {bs:List ByteArray}{letters:Int}{j:Nat}(hj:j<bs.length)(hb:uU bs.length letters j bs[j]=false)(h:wX bs.length letters j (bs.drop j)=wX bs.length letters 0 bs):wX bs.length letters 0 bs=false:=by
 rw[<- h,fE bs letters j hj,hb,Bool.false_and]
theorem fH {n j:Nat}{letters:Int}{u:ByteArray}(h1:zY u letters=true)(h2:(j=0\/¬ (j:Int)<n - 1)\/u.toList.isEmpty=false):uU n letters j u=true:=by
 unfold uU;rcases h2 with h2|h2
 ·have:decide (0<j/\j+1<n)=false:=by simp;omega
  simp[h1,this]
 ·simp[h1,h2]
theorem fJ {n j:Nat}{letters:Int}{u:ByteArray}(h1:¬ zY u letters=true):uU n letters j u=false:=by
 simp[uU,h1]
theorem fI {n j:Nat}{letters:Int}{u:ByteArray}(h:0<j)(h1:(j:Int)<n - 1)(h2:u.toList.isEmpty=true):uU n letters j u=false:=by
 have:decide (0<j/\j+1<n)=true:=by simp;omega
 simp[uU,this,h2]
theorem lB {bs:List ByteArray}{letters:Int}(h1:¬ letters<1)(h2:¬ 6<letters)(h3:¬ 8<bs.length)(h4:¬ 64<sG bs)(h5:¬ bs.length=0):
  yM bs letters=if wX bs.length letters 0 bs then 0 else 22:=by
 unfold yM;rw[if_neg (by omega),if_neg h3,if_neg h4,if_neg h5]
def pF (w:World):Prop:=0<w.heap.size/\∃ m:Int,w.cell? ⟨0,0,none⟩=some (.int .i64 m)
theorem pF.kept {w w':World}{row:Option Nat}(h:pF w)(hg:w.grownBy w' row)(hr:row≠some 0):pF w' :=
 ⟨Nat.lt_of_lt_of_le h.1 hg.size,h.2.imp fun _ hm=>(World.cell?_of_block (hg.block _ h.1 (fun e=>hr e.symm))).trans hm⟩
def rG:List (List UInt8)->List UInt8->Option (List UInt8)
 | [],r=>some r
 | u::us,r=>if (Lib.cut r u).2.2 then rG us (Lib.cut r u).2.1 else none
def mI (bs:List (List UInt8))(r v:List UInt8):Bool:=match rG bs r with
 | some r=>Lib.hasSuffix r v
 | none=>false
def uA (bs:List (List UInt8))(s:List UInt8):Bool :=
 match bs with
 | []=>false
 | [b]=>s == b
 | b::rest=>Lib.hasPrefix s b && mI rest.dropLast (s.drop b.length) (rest.getLastD [])
def xO (bs:List ByteArray)(s:ByteArray):Bool:=decide (yM bs 6=0) && (zY s 6 && uA (bs.map (·.data.toList)) s.data.toList)
theorem wT {bs:List ByteArray}{letters:Int}(h:yM bs letters=0):1<=letters/\letters<=6/\bs.length<=8/\sG bs<=64/\0<bs.length/\wX bs.length letters 0 bs=true:=by
 unfold yM at h
 split at h
 ·omega
 split at h
 ·omega
 split at h
 ·omega
 split at h
 ·omega
 split at h
 ·exact⟨by omega,by omega,by omega,by omega,by omega,by assumption⟩
 ·omega
theorem patMatch_one {bs:List ByteArray}{s:ByteArray}(h:yM bs 6=0)(hW:zY s 6=true)(h1:bs.length=1)(h0:0<bs.length):xO bs s=(s.toList == bs[0].toList):=by
 match bs,h1 with
 | [b],_=>simp[xO,h,hW,uA,ByteArray.toList_eq]
def mid (bs:List ByteArray):List (List UInt8):=((bs.map (·.data.toList)).drop 1).dropLast
theorem mH (bs:List ByteArray):(mid bs).length=bs.length - 1 - 1:=by simp[mid]
theorem qGE (bs:List ByteArray)(k:Nat)(h:k<bs.length - 1 - 1):(mid bs)[k]'(by rw[mH];exact h)=bs[1+k].data.toList:=by
 simp[mid,Nat.add_comm]
theorem findAll_step (bs:List ByteArray)(r:List UInt8)(k:Nat)(h:k<bs.length - 1 - 1)(hf:(Lib.cut r bs[1+k].data.toList).2.2=true):rG ((mid bs).drop (k+1)) (Lib.cut r bs[1+k].data.toList).2.1=rG ((mid bs).drop k) r:=by
 rw[List.drop_eq_getElem_cons (show k<(mid bs).length by rw[mH];exact h),qGE bs k h];simp[rG,hf]
theorem findAll_stop (bs:List ByteArray)(r:List UInt8)(k:Nat)(h:k<bs.length - 1 - 1)(hf:¬ (Lib.cut r bs[1+k].data.toList).2.2=true):rG ((mid bs).drop k) r=none:=by
 rw[List.drop_eq_getElem_cons (show k<(mid bs).length by rw[mH];exact h),qGE bs k h];simp[rG,hf]
theorem cut_le (r u:List UInt8):(Lib.cut r u).2.1.length<=r.length:=by
 unfold Lib.cut
 split
 ·simp
 ·simp
theorem two_le {α:Type}{bs:List α}(h0:0<bs.length)(h1:bs.length≠1):∃ b c rest,bs=b::c::rest:=by
 match bs,h0,h1 with
 | b::c::rest,_,_=>exact⟨b,c,rest,rfl⟩
theorem patMatch_none {bs:List ByteArray}{s:ByteArray}(h0:0<bs.length)(h1:bs.length≠1)(hF:rG (mid bs) (Lib.trimPrefix s.data.toList bs[0].data.toList)=none):xO bs s=false:=by
 match bs,h0,h1 with
 | b::c::rest,_,_ =>
  by_cases hP:Lib.hasPrefix s.data.toList b.data.toList=true
  ·have e:Lib.trimPrefix s.data.toList b.data.toList=s.data.toList.drop b.data.toList.length:=by simp only[Lib.trimPrefix,hP,if_true]
   simp only[List.getElem_cons_zero,e,mid,List.map_cons,List.drop_succ_cons,List.drop_zero]at hF;simp only[xO,uA,List.map_cons,mI,hF,Bool.and_false]
  ·simp only[Bool.not_eq_true]at hP
   simp[xO,uA,hP]
theorem patMatch_end {bs:List ByteArray}{s:ByteArray}{r:List UInt8}(h:yM bs 6=0)(hW:zY s 6=true)(h0:0<bs.length)(h1:bs.length≠1)(hP:Lib.hasPrefix s.data.toList bs[0].data.toList=true)(hF:rG (mid bs) (Lib.trimPrefix s.data.toList bs[0].data.toList)=some r):xO bs s=Lib.hasSuffix r bs[bs.length - 1].data.toList:=by
 have hl:(bs.drop 1).map (·.data.toList)≠[]:=by
  intro e;have:=congrArg List.length e;simp at this;omega
 have hg:((bs.drop 1).map (·.data.toList)).getLastD []=bs[bs.length - 1].data.toList:=by
  rw[List.getLastD_eq_getLast?,List.getLast?_eq_getElem?];simp only[List.length_map,List.length_drop,List.getElem?_map,List.getElem?_drop];rw[show 1+(bs.length - 1 - 1)=bs.length - 1 by omega,List.getElem?_eq_getElem (by omega)];rfl
 obtain⟨b,c,rest,rfl⟩:=two_le h0 h1
 ·have h2:Lib.hasPrefix s.data.toList b.data.toList=true:=hP
  have e:Lib.trimPrefix s.data.toList b.data.toList=s.data.toList.drop b.data.toList.length:=by simp only[Lib.trimPrefix,h2,if_true]
  simp only[List.getElem_cons_zero,e,mid,List.map_cons,List.drop_succ_cons,List.drop_zero]at hF;simp only[List.drop_succ_cons,List.drop_zero,List.map_cons]at hg;simp only[xO,h,hW,decide_true,Bool.true_and,uA,List.map_cons,mI,hF,h2,hg]
theorem trim_le {s:ByteArray}{b:List UInt8}{bs:List ByteArray}(_h:yM bs 6=0)(hW:zY s 6=true):(Lib.trimPrefix s.data.toList b).length<=2048:=by
 have hs:s.size<=2048:=by simp[zY]at hW;omega
 have e:s.data.toList.length=s.size:=by simp
 unfold Lib.trimPrefix
 split
 ·rw[List.length_drop];omega
 ·omega
theorem patMatch_nopre {bs:List ByteArray}{s:ByteArray}(h0:0<bs.length)(h1:bs.length≠1)(hP:¬ Lib.hasPrefix s.data.toList bs[0].data.toList=true):xO bs s=false:=by
 match bs,h0,h1 with
 | b::c::rest,_,_ =>
  simp only[List.getElem_cons_zero,Bool.not_eq_true]at hP;simp[xO,uA,hP]
theorem yK (w:World)(n:Int):
  Calls Try.prog 38 #[.int .i64 n] w fun e w'=>e=.returned (.bool (decide (1<=n/\n<=6)))/\w=w':=by
 by_cases h:1<=n
 ·go_enter Try.func38,Try.ntmps38
  go_wp2;go_ret;exact⟨yB (by simp[h]),rfl⟩
 ·go_enter Try.func38,Try.ntmps38
  go_wp2;go_ret;exact⟨yB (by simp;omega),rfl⟩
theorem valid01_any (s:ByteArray)(letters:Int)(w:World)(hs:s.size<=maxLen):
  Calls Try.prog 43 #[.string s,.int .i64 letters] w fun e w'=>e=.returned (.bool (zY s letters))/\w=w':=by
 unfold maxLen at hs;by_cases h1:¬ (1<=letters/\letters<=6)
 ·have e1:decide (1<=letters/\letters<=6)=false:=decide_eq_false h1
  go_enter Try.func43,Try.ntmps43;go_wp2_with fail;refine(yK w letters).mono ?_;rintro e w' ⟨rfl,rfl⟩;rw[e1];go_wp2;go_ret;exact⟨yB (by simp[zY];omega),rfl⟩
 have e1:decide (1<=letters/\letters<=6)=true:=by simpa using h1
 by_cases h3:2048<s.size
 ·go_enter Try.func43,Try.ntmps43
  go_wp2_with fail;refine(yK w letters).mono ?_;rintro e w' ⟨rfl,rfl⟩;rw[e1];go_wp2;go_ret;exact⟨yB (by simp[zY];omega),rfl⟩
 go_enter Try.func43,Try.ntmps43;go_wp2_with fail;refine(yK w letters).mono ?_;rintro e w' ⟨rfl,rfl⟩;rw[e1];go_wp2
 go_loop [5] (fun i=>∃ k:Nat,k<=s.size/\i=.int .i64 k/\(s.data.toList.take k).all (pL letters)=true) (fun i=>s.size - (intOf i).toNat)
 case atStart=>exact⟨0,Nat.zero_le _,rfl,rfl⟩
 case round =>
  obtain⟨k,hk,rfl,h0⟩:=hrel;have HA:=Kh h0;clear h0;by_cases hlt:k<s.size
  ·go_wp2
   ·go_ret
    exact⟨yB (by rw[eq_comm];exact qI s letters k hlt (by omega)),rfl⟩
   ·go_round
    case rel=>exact⟨k+1,by omega,by go_num,qEZ s letters k hlt HA.out (by omega)⟩
    case measure=>simp[intOf];omega
   ·go_ret
    exact⟨yB (by rw[eq_comm];exact qI s letters k hlt (by omega)),rfl⟩
  ·go_wp2
   go_ret;exact⟨yB (by rw[eq_comm];exact lY s letters k (by omega) (by omega) HA.out),rfl⟩
def txtV (bs:List ByteArray):List Value:=bs.map .string
theorem zX (bs:List ByteArray):(txtV bs).length=bs.length:=by simp[txtV]
theorem vU {w:World}{b off:Nat}{bs:List ByteArray}(h:uV w b off (txtV bs))(i:Nat)(hi:i<bs.length):w.cell? ⟨b,off+i,none⟩=some (.string (bs.getD i ⟨#[]⟩)):=by
 rw[h.map i hi,zG hi]
def totW (bs:List ByteArray):Int:=bs.foldl (fun a b=>wrap64 (a+(b.size:Int))) 0
theorem kD (bs:List ByteArray)(k:Nat)(hk:k<bs.length):totW (bs.take (k+1))=wrap64 (totW (bs.take k)+((bs.getD k ⟨#[]⟩).size:Int)):=by
 rw[List.take_succ_eq_append_getElem hk,totW,List.foldl_append,zG hk];rfl
theorem qFK (bs:List ByteArray)(h:∀ i (hi:i<bs.length),bs[i].size<=4294967296)(hl:bs.length<=4096):∀ k,k<=bs.length->totW (bs.take k)=(sG (bs.take k):Int)/\sG (bs.take k)<=k * 4294967296
 | 0,_=>⟨rfl,by simp[sG]⟩
 | k+1,hk=>by
  obtain⟨h1,h2⟩:=qFK bs h hl k (by omega)
  have h3:=h k (by omega)
  rw[kD bs k (by omega),h1,dP bs k (by omega),zG (show k<bs.length by omega)]
  refine⟨?_,by omega⟩
  rw[<- Int.natCast_add]
  exact IntWalk.wrap64_in _ (by omega)
def patW (bs:List ByteArray)(letters:Int):Int :=
 if letters<1\/6<letters then 1 else if 8<bs.length then 3 else if 64<totW bs then 3
 else if bs.length=0 then 22 else if wX bs.length letters 0 bs then 0 else 22
theorem ok_sizes {bs:List ByteArray}{letters:Int}:∀ {n i:Nat},wX n letters i bs=true->∀ j (hj:j<bs.length),bs[j].size<=2048:=by
 induction bs with
 | nil=>intro n i _ j hj;simp at hj
 | cons u us ih =>
  intro n i h j hj;rw[wX,Bool.and_eq_true]at h;cases j with
  | zero =>
   have h1:=h.1;simp only[uU,zY,Bool.and_eq_true,decide_eq_true_eq]at h1;exact h1.1.1.2.2
  | succ j=>simpa using ih h.2 j (by simpa using hj)
theorem jP {bs:List ByteArray}{letters:Int}(h:patW bs letters=0):¬ (letters<1\/6<letters)/\¬ 8<bs.length/\¬ 64<totW bs/\¬ bs.length=0/\wX bs.length letters 0 bs=true:=by
 unfold patW at h
 split at h
 ·omega
 split at h
 ·omega
 split at h
 ·omega
 split at h
 ·omega
 split at h
 ·exact⟨by assumption,by assumption,by assumption,by assumption,by assumption⟩
 ·omega
theorem fA {bs:List ByteArray}{letters:Int}(h1:¬ (letters<1\/6<letters))(h2:¬ 8<bs.length)(h3:¬ 64<totW bs)(h4:¬ bs.length=0):patW bs letters=if wX bs.length letters 0 bs then 0 else 22:=by
 unfold patW;rw[if_neg h1,if_neg h2,if_neg h3,if_neg h4]
theorem bP {bs:List ByteArray}{letters:Int}(h2:¬ 8<bs.length)(h3:wX bs.length letters 0 bs=true):totW bs=(sG bs:Int):=by
 have hs:=ok_sizes h3;have ht:=(qFK bs (fun i hi=>by have:=hs i hi;omega) (by omega) bs.length (Nat.le_refl _)).1
 rwa [List.take_length]at ht
theorem vW {bs:List ByteArray}{letters:Int}:patW bs letters=0 ↔ yM bs letters=0:=by
 constructor
 ·intro h
  obtain⟨h1,h2,h3,h4,h5⟩:=jP h;rw[lB (by omega) (by omega) h2 (by have:=bP h2 h5;omega) h4,if_pos h5]
 ·intro h
  obtain⟨h1,h2,h3,h4,h5,h6⟩:=wT h;rw[fA (by omega) (by omega) (by have:=bP (by omega) h6;omega) (by omega),if_pos h6]
theorem kJ (B : Nat)(w : World)(v : Value)(bs : List ByteArray)(letters : Int)(h : Row B w v (txtV bs))(hs : ∀ i (hi : i < bs.length), bs[i].size ≤ maxLen):
    Calls Try.prog 36 #[.agg #[v], .int .i64 letters] w fun e w' => e = .returned (.int .i64 (patW bs letters)) ∧ w.grownBy w' none := by
  have hlm := h.len_le
  rw [zX] at hlm
  have hlm' : bs.length ≤ 9223372036854775807 := by unfold maxLen at hlm; omega
  have H := Kh h; have HS := Kh hs
  obtain ⟨a, cap, rfl⟩ := h.shape
  rw [zX] at H ⊢
  clear h hs hlm
  by_cases h1 : letters < 1
  · go_enter Try.func36, Try.ntmps36
    go_wp2
    go_ret
    exact ⟨yA (by simp [patW, h1]), Ga _ _ _⟩
  by_cases h2 : 6 < letters
  · go_enter Try.func36, Try.ntmps36
    go_wp2
    go_ret
    exact ⟨yA (by simp [patW, h2]), Ga _ _ _⟩
  by_cases h3 : 8 < bs.length
  · have h3' : (8 : Int) < bs.length := by omega
    go_enter Try.func36, Try.ntmps36
    go_wp2
    go_ret
    exact ⟨yA (by simp [patW, h1, h2, h3]), Ga _ _ _⟩
  have h3' : ¬ (8 : Int) < bs.length := by omega
  go_enter Try.func36, Try.ntmps36
  go_wp2
  go_loopg [5, 7, 24] bs.length (fun gh t a7 i wr => w.alloc (.cells #[.slice a bs.length cap] 28) = wr ∧ ∃ k : Nat, gh + k = bs.length ∧ i = .int .i64 k ∧ t = .int .i64 (totW (bs.take k)))
  case atStart => exact ⟨rfl, 0, rfl, rfl, rfl⟩
  case round =>
    obtain ⟨hw, k, hgh, rfl, rfl⟩ := hrel
    have HGH := Kh hgh
    clear hgh
    by_cases hlt : k < bs.length
    · have hlt' : (k : Int) < bs.length := by omega
      obtain ⟨kb, off, kc, e, _, hk1, hk2, hkr⟩ := (H.out.kept (Ga w (.cells #[.slice a bs.length cap] 28) none) (by simp)).some_ (by rw [zX]; omega)
      rw [hw] at hkr
      rw [zX] at e hk1
      simp only [Value.slice.injEq] at e
      obtain ⟨rfl, _, rfl⟩ := e
      have hc := vU hkr k hlt
      have HS2 := Kh (kD bs k hlt)
      obtain ⟨u, hu⟩ : ∃ u, u = bs.getD k ⟨#[]⟩ := ⟨_, rfl⟩
      have hus : u.size ≤ 9223372036854775807 := by
        rw [hu, zG hlt]; have := HS.out k hlt; unfold maxLen at this; omega
      rw [← hu] at hc HS2
      have HW := Kh hw
      clear hkr hu hw
      go_wp2
      go_roundg (bs.length - (k + 1))
      case measure => have := HGH.out; omega
      case rel => exact ⟨HW.out, k + 1, by have := HGH.out; omega, by go_num, by rw [HS2.out]⟩
    · have hkn : k = bs.length := by have := HGH.out; omega
      have HT : Hid (totW (bs.take k) = totW bs) := Kh (by rw [hkn, List.take_length])
      rw [HT.out]
      have hkn' : ¬ (k : Int) < bs.length := by omega
      have HG : Hid (w.grownBy wr none) := Kh (by rw [← hw]; exact Ga _ _ _)
      have hb := heap_alloc_new w (.cells #[.slice a bs.length cap] 28)
      rw [hw] at hb
      have c0 : wr.cell? ⟨w.heap.size, 0, none⟩ = some (.slice a bs.length cap) := by simpa using zH hb 0 (by simp)
      have HR : Hid (Row B wr (.slice a bs.length cap) (txtV bs)) := Kh (H.out.kept HG.out (by simp))
      clear hkn hw hb HGH
      obtain ⟨tw, htw⟩ : ∃ tw, tw = totW bs := ⟨_, rfl⟩
      rw [← htw]
      have HTW := Kh htw
      clear htw
      by_cases h4 : 64 < tw
      · go_wp2
        go_ret
        exact ⟨yA (by rw [patW, if_neg (by omega), if_neg (by omega), if_pos (by rw [← HTW.out]; omega)]), HG.out⟩
      by_cases h5 : bs.length = 0
      · have h5' : ((bs.length : Int) == 0) = true := by simp [h5]
        have H5 := Kh h5; clear h5
        go_wp2
        go_ret
        exact ⟨yA (by rw [patW, if_neg (by omega), if_neg (by omega), if_neg (by rw [← HTW.out]; omega), if_pos H5.out]), HG.out⟩
      have h5' : ((bs.length : Int) == 0) = false := by rw [beq_eq_false_iff_ne]; omega
      go_wp2
      go_loopg [8, 9, 42] bs.length (fun gh a8 a9 i wq => wr = wq ∧ ∃ k : Nat, gh + k = bs.length ∧ i = .int .i64 k ∧ wX bs.length letters k (bs.drop k) = wX bs.length letters 0 bs)
      case atStart => exact ⟨rfl, 0, rfl, rfl, rfl⟩
      case round =>
        obtain ⟨rfl, j, hgh, rfl, hok⟩ := hrel
        have HGH := Kh hgh; have HOK := Kh hok
        clear hgh hok
        by_cases hj : j < bs.length
        · have hj' : (j : Int) < bs.length := by omega
          obtain ⟨kb, off, kc, e, _, hk1, hk2, hkr⟩ := HR.out.some_ (by rw [zX]; omega)
          rw [zX] at e hk1
          simp only [Value.slice.injEq] at e
          obtain ⟨rfl, _, rfl⟩ := e
          have hc := vU hkr j hj
          obtain ⟨u, hu⟩ : ∃ u, u = bs.getD j ⟨#[]⟩ := ⟨_, rfl⟩
          have hus : u.size ≤ maxLen := by rw [hu, zG hj]; exact HS.out j hj
          rw [← hu] at hc
          have HU : Hid (u = bs[j]) := Kh (by rw [hu, zG hj])
          clear hkr hu
          go_wp2_with (go_at_call 39; refine (pU u letters _ hus).mono ?_; rintro e w' ⟨rfl, rfl⟩)
          all_goals first
            | (go_ret
               exact ⟨yA (by rw [fA (by omega) (by omega) (by rw [← HTW.out]; omega) (by omega), cW hj (by rw [← HU.out]; first | exact fI (by assumption) (by assumption) (by assumption) | exact fJ (by assumption)) HOK.out]; rfl), HG.out⟩)
            | (go_roundg (bs.length - (j + 1))
               case rel => exact ⟨rfl, j + 1, by have := HGH.out; omega, by go_num, fD hj (fH (by rw [← HU.out]; assumption) (by rw [← HU.out]; first | (left; omega) | (right; assumption))) HOK.out⟩
               case measure => have := HGH.out; omega)
        · have hj' : ¬ (j : Int) < bs.length := by omega
          have e : wX bs.length letters j (bs.drop j) = true := by rw [List.drop_eq_nil_of_le (by omega)]; rfl
          have HE := Kh e
          clear e
          go_wp2
          go_ret
          exact ⟨yA (by rw [fA (by omega) (by omega) (by rw [← HTW.out]; omega) (by omega), ← HOK.out, HE.out]; rfl), HG.out⟩
end Go.Proofs.Ytjfdomfendbhfaa
namespace Go.Proofs.Ytjfdomfendbhfaa
structure ChoV where
 p:Int
 y:Int
 n:Int
deriving Inhabited,DecidableEq
structure DiaV where
 pats:List (List ByteArray)
 chos:List ChoV
 root:Int
def refB (cs:List ChoV)(i:Nat)(p r:Int):Bool:=decide (0<=r/\r<=1+(i:Int)) && decide (r<2\/p<(cs.getD (r.toNat - 2) default).p)
def choB (np:Nat)(cs:List ChoV)(i:Nat):Bool :=
 decide (0<=(cs.getD i default).p/\(cs.getD i default).p<np) && (refB cs i (cs.getD i default).p (cs.getD i default).y && refB cs i (cs.getD i default).p (cs.getD i default).n)
def vP (letters:Int):List (List ByteArray)->Int
 | []=>0
 | p::ps=>if patW p letters=0 then vP letters ps else patW p letters
def dF (np:Nat)(cs:List ChoV)(root:Int):Int:=if (List.range cs.length).all (choB np cs)=true/\0<=root/\root<=1+(cs.length:Int) then 0 else 22
def diaE (g:DiaV)(letters:Int):Int :=
 if letters<1\/6<letters then 1 else if 300<g.pats.length\/20000<g.chos.length then 3
 else if vP letters g.pats=0 then dF g.pats.length g.chos g.root else vP letters g.pats
theorem jO {letters:Int}{ps:List (List ByteArray)}{k:Nat}(hk:k<ps.length)(h:patW (ps.getD k []) letters=0):vP letters (ps.drop (k+1))=vP letters (ps.drop k):=by
 rw[List.drop_eq_getElem_cons hk,vP,if_pos (by rw[zG hk]at h;exact h)]
theorem gZ {letters:Int}{ps:List (List ByteArray)}{k:Nat}(hk:k<ps.length)(h:patW (ps.getD k []) letters≠0):vP letters (ps.drop k)=patW (ps.getD k []) letters:=by
 rw[List.drop_eq_getElem_cons hk,vP,if_neg (by rw[zG hk]at h;exact h),zG hk]
theorem gY {letters:Int}{ps:List (List ByteArray)}{k:Nat}(hk:¬ k<ps.length):vP letters (ps.drop k)=0:=by
 rw[List.drop_eq_nil_of_le (by omega)];rfl
theorem uM {letters:Int}:∀ {ps:List (List ByteArray)},vP letters ps=0 ↔ ∀ p∈ps,patW p letters=0
 | []=>by simp[vP]
 | p::ps=>by
  rw[vP]
  split
  ·rename_i h;rw[uM];simp[h]
  ·rename_i h;simp[h]
def vD (np:Nat)(cs:List ChoV)(k:Nat):Prop:=∀ i,i<k->choB np cs i=true
theorem chosTo_zero (np:Nat)(cs:List ChoV):vD np cs 0:=fun i hi=>by omega
theorem eL {np:Nat}{cs:List ChoV}{k:Nat}(h:vD np cs k)(hk:choB np cs k=true):vD np cs (k+1):=fun i hi=>by
 rcases Nat.lt_succ_iff_lt_or_eq.1 hi with hi|rfl
 ·exact h i hi
 ·exact hk
theorem jD {np:Nat}{cs:List ChoV}{root:Int}{k:Nat}(hk:k<cs.length)(h:choB np cs k=false):dF np cs root=22:=by
 unfold dF;rw[if_neg];rintro ⟨h1,_⟩;rw[List.all_eq_true]at h1;have:=h1 k (List.mem_range.2 hk);rw[h]at this;cases this
theorem qCB {np:Nat}{cs:List ChoV}{root:Int}{k:Nat}(hk:¬ k<cs.length)(h:vD np cs k):dF np cs root=if 0<=root/\root<=1+(cs.length:Int) then 0 else 22:=by
 unfold dF;have:(List.range cs.length).all (choB np cs)=true:=List.all_eq_true.2 fun i hi=>h i (by have:=List.mem_range.1 hi;omega);rw[this];simp
theorem chosE_zero {np:Nat}{cs:List ChoV}{root:Int}(h:dF np cs root=0):vD np cs cs.length/\0<=root/\root<=1+(cs.length:Int):=by
 unfold dF at h
 split at h
 ·rename_i h1
  exact⟨fun i hi=>List.all_eq_true.1 h1.1 i (List.mem_range.2 hi),h1.2⟩
 ·omega
theorem chosE_of {np:Nat}{cs:List ChoV}{root:Int}(h:vD np cs cs.length)(h1:0<=root)(h2:root<=1+(cs.length:Int)):dF np cs root=0:=by
 rw[qCB (Nat.lt_irrefl _) h,if_pos ⟨h1,h2⟩]
theorem diaE_zero {g:DiaV}{letters:Int}(h:diaE g letters=0):1<=letters/\letters<=6/\g.pats.length<=300/\g.chos.length<=20000/\(∀ p∈g.pats,patW p letters=0)/\vD g.pats.length g.chos g.chos.length/\0<=g.root/\g.root<=1+(g.chos.length:Int):=by
 unfold diaE at h
 split at h
 ·omega
 split at h
 ·omega
 split at h
 ·rename_i h3
  obtain⟨h4,h5,h6⟩:=chosE_zero h;exact⟨by omega,by omega,by omega,by omega,uM.1 h3,h4,h5,h6⟩
 ·omega
theorem qGJ {g:DiaV}{letters:Int}(h1:1<=letters)(h2:letters<=6)(h3:g.pats.length<=300)(h4:g.chos.length<=20000)(h5:∀ p∈g.pats,patW p letters=0)(h6:vD g.pats.length g.chos g.chos.length)(h7:0<=g.root)(h8:g.root<=1+(g.chos.length:Int)):diaE g letters=0:=by
 unfold diaE;rw[if_neg (by omega),if_neg (by omega),if_pos (uM.2 h5),chosE_of h6 h7 h8]
theorem qEN {g:DiaV}{letters:Int}(h:letters<1\/6<letters):diaE g letters=1:=if_pos h
theorem qEM {g:DiaV}{letters:Int}(h:¬ (letters<1\/6<letters))(h2:300<g.pats.length\/20000<g.chos.length):diaE g letters=3:=by
 unfold diaE;rw[if_neg h,if_pos h2]
theorem diaE_pat {g:DiaV}{letters:Int}(h:¬ (letters<1\/6<letters))(h2:¬ (300<g.pats.length\/20000<g.chos.length)){k:Nat}(hk:k<g.pats.length)(h3:vP letters (g.pats.drop k)=vP letters g.pats)(h4:patW (g.pats.getD k []) letters≠0):diaE g letters=patW (g.pats.getD k []) letters:=by
 have e:=gZ hk h4;rw[h3]at e;unfold diaE;rw[if_neg h,if_neg h2,if_neg (by rw[e];exact h4),e]
theorem diaE_cho {g:DiaV}{letters:Int}(h:¬ (letters<1\/6<letters))(h2:¬ (300<g.pats.length\/20000<g.chos.length))(h3:vP letters g.pats=0):diaE g letters=dF g.pats.length g.chos g.root:=by
 unfold diaE;rw[if_neg h,if_neg h2,if_pos h3]
def decF (cs:List ChoV)(m:Nat->Bool):Nat->Int->Bool
 | 0,r=>decide (r=1)
 | f+1,r=>if r<2 then decide (r=1) else decF cs m f (if m (cs.getD (r.toNat - 2) default).p.toNat then (cs.getD (r.toNat - 2) default).y else (cs.getD (r.toNat - 2) default).n)
def decG (cs:List ChoV)(m:Nat->Bool)(r:Int):Bool:=decF cs m r.toNat r
theorem nZ {np:Nat}{cs:List ChoV}{i:Nat}(h:choB np cs i=true):0<=(cs.getD i default).p/\(cs.getD i default).p<np/\0<=(cs.getD i default).y/\(cs.getD i default).y<=1+(i:Int)/\0<=(cs.getD i default).n/\(cs.getD i default).n<=1+(i:Int):=by
 simp only[choB,refB,Bool.and_eq_true,decide_eq_true_eq]at h;omega
theorem eG {np:Nat}{cs:List ChoV}{m:Nat->Bool}(h:vD np cs cs.length):∀ (f:Nat) (r:Int) (e:Nat),r.toNat<=f->r<=1+(cs.length:Int)->decF cs m (f+e) r=decF cs m f r
 | 0,r,e,hf,_=>by
  cases e with
  | zero=>rfl
  | succ e=>rw[Nat.zero_add,decF,decF,if_pos (by omega)]
 | f+1,r,e,hf,hr=>by
  rw[show f+1+e=(f+e)+1 by omega,decF,decF]
  split
  ·rfl
  ·rename_i h2
   have hi:r.toNat - 2<cs.length:=by omega
   have hc:=nZ (h _ hi)
   split
   ·exact eG h f _ e (by omega) (by omega)
   ·exact eG h f _ e (by omega) (by omega)
theorem qEP (cs:List ChoV)(m:Nat->Bool){r:Int}(h:r<2):decG cs m r=decide (r=1):=by
 unfold decG;cases r.toNat with
 | zero=>rfl
 | succ f=>rw[decF,if_pos h]
theorem eE {np:Nat}{cs:List ChoV}{m:Nat->Bool}(h:vD np cs cs.length){r:Int}(h2:2<=r)(hr:r<=1+(cs.length:Int)):decG cs m r=decG cs m (if m (cs.getD (r.toNat - 2) default).p.toNat then (cs.getD (r.toNat - 2) default).y else (cs.getD (r.toNat - 2) default).n):=by
 have hc:=nZ (h (r.toNat - 2) (by omega))
 have hx:∀ x:Int,x.toNat<=r.toNat - 1->x<=1+(cs.length:Int)->decF cs m (r.toNat - 1) x=decG cs m x:=fun x h1 h3=>by
  have:=eG (m:=m) h x.toNat x (r.toNat - 1 - x.toNat) (Nat.le_refl _) h3;rw[show x.toNat+(r.toNat - 1 - x.toNat)=r.toNat - 1 by omega]at this;exact this
 have e:decG cs m r=decF cs m (r.toNat - 1) (if m (cs.getD (r.toNat - 2) default).p.toNat then (cs.getD (r.toNat - 2) default).y else (cs.getD (r.toNat - 2) default).n):=by
  have hf:r.toNat=(r.toNat - 1)+1:=by omega
  show decF cs m r.toNat r=_
  conv=>lhs;rw[hf]
  rw[decF,if_neg (by omega)]
 rw[e];refine hx _ ?_ ?_<;>split<;>omega
open Go.RowKit
theorem xE {w w':World}{p:Addr}{u:Value}(h:w.cell? p=some u)(hg:w.grownBy w' none):w'.cell? p=some u:=(World.cell?_of_block (hg.block p.block (World.block_lt_of_cell? w p h) (by simp))).trans h
def PatsIn (B:Nat)(w:World)(v:Value)(ps:List (List ByteArray)):Prop :=
 ∃ svs,Row B w v svs/\svs.length=ps.length/\∀ i (h1:i<svs.length) (h2:i<ps.length),Row B w svs[i] (txtV ps[i])/\∀ j (hj:j<ps[i].length),ps[i][j].size<=maxLen
section
variable {B:Nat} {w:World} {v:Value} {ps:List (List ByteArray)}
theorem PatsIn.kept {w':World}{row:Option Nat}(h:PatsIn B w v ps)(hg:w.grownBy w' row)(hr:∀ k,row=some k->B<=k):PatsIn B w' v ps:=by
 obtain⟨svs,h1,h2,h3⟩:=h;exact⟨svs,h1.kept hg hr,h2,fun i h4 h5=>⟨(h3 i h4 h5).1.kept hg hr,(h3 i h4 h5).2⟩⟩
theorem PatsIn.shape (h:PatsIn B w v ps):∃ a c,v=.slice a ps.length c:=by
 obtain⟨svs,h1,h2,h3⟩:=h;obtain⟨a,c,rfl⟩:=h1.shape;exact⟨a,c,by rw[h2]⟩
theorem PatsIn.len_le (h:PatsIn B w v ps):ps.length<=maxLen:=by
 obtain⟨svs,h1,h2,h3⟩:=h;rw[<- h2];exact h1.len_le
theorem PatsIn.nil (a:Option Addr)(c:Nat):PatsIn B w (.slice a 0 c) []:=⟨[],.inl ⟨a,c,rfl,rfl⟩,rfl,fun i h=>by simp at h⟩
theorem PatsIn.at_ (h:PatsIn B w v ps)(h0:0<ps.length):∃ b off cap,v=.slice (some ⟨b,off,none⟩) ps.length cap/\b<B/\ps.length<=cap/\cap<=maxLen/\∀ i,i<ps.length->∃ sa sc,w.cell? ⟨b,off+i,none⟩=some (.slice sa (ps.getD i []).length sc)/\Row B w (.slice sa (ps.getD i []).length sc) (txtV (ps.getD i []))/\∀ j (hj:j<(ps.getD i []).length),(ps.getD i [])[j].size<=maxLen:=by
 obtain⟨svs,h1,h2,h3⟩:=h;obtain⟨b,off,cap,rfl,hb,hc,hm,h7⟩:=h1.some_ (by omega);refine⟨b,off,cap,by rw[h2],hb,by omega,hm,fun i hi=>?_⟩;have h6:i<svs.length:=by omega
 obtain⟨h4,h5⟩:=h3 i h6 hi;obtain⟨sa,sc,e⟩:=h4.shape;rw[zX]at e;have hc:=h7.2 i h6;have e2:ps.getD i []=ps[i]:=zG hi;rw[e2];refine⟨sa,sc,by rw[hc,e],by rw[<- e];exact h4,h5⟩
end
structure ChosO (w:World)(g off:Nat)(cs:List ChoV):Prop where
 lt:g<w.heap.size
 p:∀ i,i<cs.length->w.cell? ⟨g,off+i * 3,none⟩=some (.int .i64 (cs.getD i default).p)
 y:∀ i,i<cs.length->w.cell? ⟨g,off+i * 3+1,none⟩=some (.int .i64 (cs.getD i default).y)
 n:∀ i,i<cs.length->w.cell? ⟨g,off+i * 3+2,none⟩=some (.int .i64 (cs.getD i default).n)
theorem ChosO.kept {w w':World}{g off:Nat}{cs:List ChoV}{row:Option Nat}(h:ChosO w g off cs)(hg:w.grownBy w' row)(hr:row≠some g):ChosO w' g off cs:=by
 have hb:=hg.block g h.lt (fun e=>hr e.symm);exact⟨Nat.lt_of_lt_of_le h.lt hg.size,fun i hi=>(World.cell?_of_block hb).trans (h.p i hi),fun i hi=>(World.cell?_of_block hb).trans (h.y i hi),fun i hi=>(World.cell?_of_block hb).trans (h.n i hi)⟩
def oZ (B:Nat)(w:World)(v:Value)(cs:List ChoV):Prop :=
 (∃ a cap,v=.slice a 0 cap/\cs=[])\/∃ b off cap,v=.slice (some ⟨b,off,none⟩) cs.length cap/\b<B/\cs.length<=cap/\cap<=maxLen/\ChosO w b off cs
section
variable {B:Nat} {w:World} {v:Value} {cs:List ChoV}
theorem oZ.kept {w':World}{row:Option Nat}(h:oZ B w v cs)(hg:w.grownBy w' row)(hr:∀ k,row=some k->B<=k):oZ B w' v cs:=by
 rcases h with h|⟨b,off,cap,h1,h2,h3,h4,h5⟩
 ·exact .inl h
 ·exact .inr ⟨b,off,cap,h1,h2,h3,h4,h5.kept hg (fun e=>by have:=hr b e;omega)⟩
theorem oZ.shape (h:oZ B w v cs):∃ a c,v=.slice a cs.length c:=by
 rcases h with ⟨a,c,rfl,rfl⟩|⟨b,off,cap,rfl,_⟩
 ·exact⟨a,c,rfl⟩
 ·exact⟨_,_,rfl⟩
theorem oZ.len_le (h:oZ B w v cs):cs.length<=maxLen:=by
 rcases h with ⟨a,c,rfl,rfl⟩|⟨b,off,cap,rfl,h1,h2,h3,_⟩
 ·exact Nat.zero_le _
 ·omega
theorem oZ.at_ (h:oZ B w v cs)(h0:0<cs.length):∃ b off cap,v=.slice (some ⟨b,off,none⟩) cs.length cap/\b<B/\cs.length<=cap/\cap<=maxLen/\ChosO w b off cs:=by
 rcases h with ⟨a,c,rfl,rfl⟩|h
 ·simp at h0
 ·exact h
end
def dG (B:Nat)(w:World)(v:Value)(g:DiaV):Prop:=∃ pv cv,v=.agg #[pv,cv,.int .i64 g.root]/\PatsIn B w pv g.pats/\oZ B w cv g.chos
theorem dG.kept {B:Nat}{w w':World}{v:Value}{g:DiaV}{row:Option Nat}(h:dG B w v g)(hg:w.grownBy w' row)(hr:∀ k,row=some k->B<=k):dG B w' v g:=by
 obtain⟨pv,cv,h1,h2,h3⟩:=h;exact⟨pv,cv,h1,h2.kept hg hr,h3.kept hg hr⟩
theorem zM {w:World}{p e:Nat}{x0 x1 x2:Value}{m:Nat×Nat}(h:w.heap[p]?=some (.cells #[x0,x1,x2] e m)):w.cell? ⟨p,0,none⟩=some x0/\w.cell? ⟨p,1,none⟩=some x1/\w.cell? ⟨p,2,none⟩=some x2:=by
 have c0:=zH h 0 (by simp);have c1:=zH h 1 (by simp);have c2:=zH h 2 (by simp);exact⟨by simpa using c0,by simpa using c1,by simpa using c2⟩
theorem qU:ElemN Try.prog 84 42 4 (.agg #[.int .i64 0,.int .i64 0,.slice none 0 0,.slice none 0 0]) 64:=⟨by kernel_rfl,by kernel_rfl,by rfl,by decide⟩
def dval (x:DfaV×Value×Value):List Value:=[.int .i64 x.1.letters,.int .i64 x.1.start,x.2.1,x.2.2]
def nC (l:List (DfaV×Value×Value)):List Value:=l.flatMap dval
theorem dvals_snoc (l:List (DfaV×Value×Value))(x:DfaV×Value×Value):nC (l++[x])=nC l++dval x:=by simp[nC]
theorem qBW:∀ (l:List (DfaV×Value×Value)) (i:Nat) (h:i<l.length),(nC l)[i * 4]?=some (.int .i64 l[i].1.letters)/\(nC l)[i * 4+1]?=some (.int .i64 l[i].1.start)/\(nC l)[i * 4+2]?=some l[i].2.1/\(nC l)[i * 4+3]?=some l[i].2.2
 | [],i,h=>by simp at h
 | x::l,0,_=>⟨rfl,rfl,rfl,rfl⟩
 | x::l,i+1,h=>by
  have h1:=qBW l i (by simpa using h)
  have e:nC (x::l)=.int .i64 x.1.letters::.int .i64 x.1.start::x.2.1::x.2.2::nC l:=rfl
  rw[e,show (i+1) * 4=i * 4+1+1+1+1 by omega]
  rw[show i * 4+1+1+1+1+1=(i * 4+1)+1+1+1+1 by omega,show i * 4+1+1+1+1+2=(i * 4+2)+1+1+1+1 by omega,show i * 4+1+1+1+1+3=(i * 4+3)+1+1+1+1 by omega]
  simpa using h1
structure DsUp (base:Nat)(w:World)(v:Value)(l:List (DfaV×Value×Value)):Prop where
 own:w.ownsRow base 42 4 v l.length (nC l)
 ok:∀ x∈l,DfaT w x.2.1 x.2.2 x.1
section
variable {base:Nat} {w w':World} {v:Value} {l:List (DfaV×Value×Value)}
theorem DsUp.grow (h:DsUp base w v l)(hg:w.grownBy w' none):DsUp base w' v l:=⟨zP h.own hg,fun x hx=>(h.ok x hx).grow hg⟩
theorem DsUp.other {n:Nat}{xs:List Value}(h:w.ownsRow base 42 4 v n xs):∀ k,v.ownBlock=some k->yH w 4 k/\yH w 34 k/\yH w 3 k:=fun k hk=>⟨zS h (by decide) k hk,zS h (by decide) k hk,zS h (by decide) k hk⟩
theorem DsUp.push {v' : Value}{x : DfaV × Value × Value}(h : DsUp base w v l)(hx : DfaT w x.2.1 x.2.2 x.1)(ho : w'.ownsRow base 42 4 v' (l.length + 1) (nC l ++ dval x))(hg : w.grownBy w' v.ownBlock): DsUp base w' v' (l ++ [x]) :=
 ⟨by rw[dvals_snoc, List.length_append]; exact ho, fun y hy => by
  have hot : ∀ k, v.ownBlock = some k -> yH w 4 k /\ yH w 34 k /\ yH w 3 k := DsUp.other h.own
  rcases List.mem_append.1 hy with hy | hy
  ·exact(h.ok y hy).kept hg hot
  ·simp at hy; subst hy; exact hx.kept hg hot⟩
end
structure DsO (B:Nat)(w:World)(g off:Nat)(ds:List DfaV):Prop where
 lt:g<w.heap.size
 gB:g<B
 at_:∀ i,i<ds.length->∃ f nx,w.cell? ⟨g,off+i * 4,none⟩=some (.int .i64 (ds.getD i dN).letters)/\w.cell? ⟨g,off+i * 4+1,none⟩=some (.int .i64 (ds.getD i dN).start)/\w.cell? ⟨g,off+i * 4+2,none⟩=some f/\w.cell? ⟨g,off+i * 4+3,none⟩=some nx/\uW B w (.agg #[.int .i64 (ds.getD i dN).letters,.int .i64 (ds.getD i dN).start,f,nx]) (ds.getD i dN)
theorem DsO.kept {B:Nat}{w w':World}{g off:Nat}{ds:List DfaV}{row:Option Nat}(h:DsO B w g off ds)(hg:w.grownBy w' row)(hr:∀ k,row=some k->B<=k):DsO B w' g off ds:=by
 have hb:=hg.block g h.lt (fun e=>by have:=hr g e.symm;have:=h.gB;omega);refine⟨Nat.lt_of_lt_of_le h.lt hg.size,h.gB,fun i hi=>?_⟩;obtain⟨f,nx,h1,h2,h3,h4,h5⟩:=h.at_ i hi;exact⟨f,nx,(World.cell?_of_block hb).trans h1,(World.cell?_of_block hb).trans h2,(World.cell?_of_block hb).trans h3,(World.cell?_of_block hb).trans h4,h5.kept hg hr⟩
def DsIn (B:Nat)(w:World)(v:Value)(ds:List DfaV):Prop :=
 (∃ a cap,v=.slice a 0 cap/\ds=[])\/∃ b off cap,v=.slice (some ⟨b,off,none⟩) ds.length cap/\ds.length<=cap/\cap<=maxLen/\DsO B w b off ds
theorem DsIn.kept {B:Nat}{w w':World}{v:Value}{ds:List DfaV}{row:Option Nat}(h:DsIn B w v ds)(hg:w.grownBy w' row)(hr:∀ k,row=some k->B<=k):DsIn B w' v ds:=by
 rcases h with h|⟨b,off,cap,h1,h2,h3,h4⟩
 ·exact .inl h
 ·exact .inr ⟨b,off,cap,h1,h2,h3,h4.kept hg hr⟩
theorem DsIn.shape {B:Nat}{w:World}{v:Value}{ds:List DfaV}(h:DsIn B w v ds):∃ a c,v=.slice a ds.length c:=by
 rcases h with ⟨a,c,rfl,rfl⟩|⟨b,off,cap,rfl,_⟩
 ·exact⟨a,c,rfl⟩
 ·exact⟨_,_,rfl⟩
theorem DsIn.head {B:Nat}{w:World}{v:Value}{ds:List DfaV}(h:DsIn B w v ds)(h0:0<ds.length):∃ b off cap,v=.slice (some ⟨b,off,none⟩) ds.length cap/\ds.length<=cap/\cap<=maxLen/\DsO B w b off ds:=by
 rcases h with ⟨a,c,rfl,rfl⟩|h
 ·simp at h0
 ·exact h
theorem DsUp.in_ {base:Nat}{w:World}{v:Value}{l:List (DfaV×Value×Value)}(h:DsUp base w v l):DsIn w.heap.size w v (l.map (·.1)):=by
 have h5:∀ g j,(⟨g,0,none⟩:Addr).add j=⟨g,j,none⟩:=fun g j=>by unfold Addr.add;split<;>simp_all
 rcases h.own.2 with ⟨rfl,h0⟩|⟨g,cap,cur,rfl,hb,hg,hnc,hcm,_⟩
 ·exact .inl ⟨_,_,rfl,by rw[List.map_eq_nil_iff];exact List.eq_nil_of_length_eq_zero h0⟩
 ·refine .inr ⟨g,0,cap,by rw[List.length_map],by rw[List.length_map];exact hnc,hcm,zK hg,zK hg,fun i hi=>?_⟩
  rw[List.length_map]at hi;obtain⟨h1,h2,h3,h4⟩:=qBW l i hi;have c1:=h.own.cells (g:=g) rfl _ _ h1;have c2:=h.own.cells (g:=g) rfl _ _ h2;have c3:=h.own.cells (g:=g) rfl _ _ h3;have c4:=h.own.cells (g:=g) rfl _ _ h4;rw[h5]at c1 c2 c3 c4;have e:(l.map (·.1)).getD i dN=l[i].1:=by rw[zG (by simpa using hi)];simp
  rw[e,Nat.zero_add];exact⟨_,_,c1,c2,c3,c4,(h.ok _ (List.getElem_mem hi)).ok⟩
theorem make0N {P:Program}{w:World}{ops:Array Oper}{rest:List Oper}{o:Oper}{a:Act}{Q:Exit->Act->World->Prop}(hgd:o.guard=none)(l c:Operand)(t:TypeId)(ho:o.op=.makeSlice t l c){e:TypeId}{sz:Nat}{z:Value}{bytes:Nat}(E:ElemN P t e sz z bytes)(kl kc:IntKind)(C:Int)(n:Nat)(hl:a.eval l=.int kl 0)(hc:a.eval c=.int kc C)(hC:C=(n:Int))(hb:bytes * n<=281474976710656)(h63:n<=maxLen)(h:∀ w',w'.ownsRow w.heap.size e sz (.slice (some ⟨w.heap.size,0,none⟩) 0 n) 0 []->w.grownBy w' none->wpList P ops Q rest (a.put o.dst (.slice (some ⟨w.heap.size,0,none⟩) 0 n)) w'):wpList P ops Q (o::rest) a w:=by
 obtain⟨i,hi,h0,h1,h2⟩:=info_parts E.hi;exact wpList_make_own w hgd l c t ho w.heap.size e i z sz E.ht hi h0 h1 kl kc C n hl hc hC (by rw[h2];exact hb) h63 (Nat.le_refl _) h
end Go.Proofs.Ytjfdomfendbhfaa
