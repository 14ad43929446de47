/- Part 13 of the proof. -/
import Derived.Test.YtjfdomfendbhfaaQh12
import Derived.BigQuiet
set_option linter.unusedVariables false
set_option linter.unusedSimpArgs false
set_option maxRecDepth 100000
set_option maxHeartbeats 16000000
namespace Go.Proofs.Ytjfdomfendbhfaa
open Go.Maps Go.RowKit
def qIJ (c:ChoV):List Value:=[.int .i64 c.p,.int .i64 c.y,.int .i64 c.n]
def sJ (l:List ChoV):List Value:=l.flatMap qIJ
theorem dE (l:List ChoV)(c:ChoV):sJ (l++[c])=sJ l++qIJ c:=by simp[sJ]
theorem lG:∀(l:List ChoV) (i:Nat) (h:i<l.length),(sJ l)[i*3]?=some (.int .i64 l[i].p)/\(sJ l)[i*3+1]?=some (.int .i64 l[i].y)/\(sJ l)[i*3+2]?=some (.int .i64 l[i].n)
 | [],i,h=>by simp at h
 | x::l,0,_=>⟨rfl,rfl,rfl⟩
 | x::l,i+1,h=>by
  have h1:=lG l i (by simpa using h)
  rw[show sJ (x::l)=.int .i64 x.p::.int .i64 x.y::.int .i64 x.n::sJ l from rfl,show (i+1)*3=i*3+1+1+1 by omega,show i*3+1+1+1+1=(i*3+1)+1+1+1 by omega,show i*3+1+1+1+2=(i*3+2)+1+1+1 by omega]
  simpa using h1
theorem qFJ:ElemN Try.prog 23 45 3 (.agg #[.int .i64 0,.int .i64 0,.int .i64 0]) 24:=⟨by kernel_rfl,by kernel_rfl,by rfl,by decide⟩
theorem gD {base:Nat}{w:World}{v:Value}{l:List ChoV}{B:Nat}(h:w.ownsRow base 45 3 v l.length (sJ l))(hB:w.heap.size<=B):qP B w v l:=by
 have h1:∀g j,(⟨g,0,none⟩:Addr).add j=⟨g,j,none⟩:=fun g j=>by unfold Addr.add;split<;>simp_all
 rcases h.2 with ⟨rfl,h0⟩|⟨g,cap,cur,rfl,hb,hg,hnc,hcm,_⟩
 ·exact .inl ⟨none,0,by first|rfl|rw[h0],List.eq_nil_of_length_eq_zero h0⟩
 ·refine .inr ⟨g,0,cap,rfl,Nat.lt_of_lt_of_le (zK hg) hB,hnc,hcm,zK hg,fun i hi=>?_,fun i hi=>?_,fun i hi=>?_⟩
  ·have c1:=h.cells (g:=g) rfl _ _ (lG l i hi).1
   rw[h1]at c1;rw[zG hi,Nat.zero_add];exact c1
  ·have c1:=h.cells (g:=g) rfl _ _ (lG l i hi).2.1
   rw[h1]at c1;rw[zG hi,Nat.zero_add];exact c1
  ·have c1:=h.cells (g:=g) rfl _ _ (lG l i hi).2.2
   rw[h1]at c1;rw[zG hi,Nat.zero_add];exact c1
theorem chomap_under:Try.prog.underlying 135=some (.map 45 3):=by kernel_rfl
theorem cho_keyed:Keyed Try.prog 45:=Keyed.of_law (deep_law_laid (m:=5) (by kernel_rfl) (by decide) (of_decide_eq_true (by kernel_rfl)) (by kernel_rfl) (by kernel_rfl))
def choW (c:ChoV):Value:=.agg #[.int .i64 c.p,.int .i64 c.y,.int .i64 c.n]
def qAT (c:ChoV):Prop:=(0<=c.p/\c.p<4611686018427387904)/\(0<=c.y/\c.y<4611686018427387904)/\(0<=c.n/\c.n<4611686018427387904)
theorem qCW:Try.prog.cellsOf 45=3:=by kernel_rfl
theorem cho_some {x0 x1 x2:Nat}(h0:x0<4611686018427387904)(h1:x1<4611686018427387904)(h2:x2<4611686018427387904):(keyOf Try.prog 45 (.agg #[.int .i64 (x0:Int),.int .i64 (x1:Int),.int .i64 (x2:Int)])).isSome=true:=by
 have hk:Try.prog.keyType 45=true:=by kernel_rfl
 unfold keyOf;rw[Try.underlying45];simp only[hk,Bool.true_and]
 have hf:(Value.agg #[.int .i64 (x0:Int),.int .i64 (x1:Int),.int .i64 (x2:Int)]).formed Try.prog 45=true:=by
  simp[Value.formed,Try.underlying45,qCW]
 rw[if_pos hf]
 have hl:Try.prog.keyLits (Try.prog.types.size+1) 45 (Value.agg #[.int .i64 (x0:Int),.int .i64 (x1:Int),.int .i64 (x2:Int)]).cells.toList=some [.int .i64 (x0:Int),.int .i64 (x1:Int),.int .i64 (x2:Int)]:=by
  have hz:Try.prog.types.size=(Try.prog.types.size-1)+1:=by kernel_rfl
  rw[hz];unfold Program.keyLits;rw[Try.underlying45];simp[Value.cells,qCW,eO,tK _ h0,tK _ h1,tK _ h2]
 rw[hl];rfl
theorem qHN:KeyK 135 45 qAT choW where
 key:=cho_keyed
 und:=chomap_under
 of:=fun c h=>by
  obtain⟨p,y,n⟩:=c
  obtain⟨⟨a1,a2⟩,⟨b1,b2⟩,⟨c1,c2⟩⟩:=h
  simp only at a1 a2 b1 b2 c1 c2
  have:=cho_some (x0:=p.toNat) (x1:=y.toNat) (x2:=n.toNat) (by omega) (by omega) (by omega)
  rw[Int.toNat_of_nonneg a1,Int.toNat_of_nonneg b1,Int.toNat_of_nonneg c1]at this
  exact this
 inj:=fun x y hx hy e=>by
  obtain⟨p,y',n⟩:=x
  obtain⟨p2,y2,n2⟩:=y
  simp only[choW,Value.agg.injEq]at e
  have e:=congrArg Array.toList e
  simp only[List.cons.injEq,Value.int.injEq,true_and,and_true]at e
  obtain⟨rfl,rfl,rfl⟩:=e
  rfl
def numH (l:List ChoV)(c:ChoV):Option Nat:=if c∈l then some (l.idxOf c) else none
theorem numH_of_mem {l:List ChoV}{c:ChoV}(h:c∈l):numH l c=some (l.idxOf c):=if_pos h
theorem qEU {l:List ChoV}{c:ChoV}(h:c ∉ l):numH l c=none:=if_neg h
theorem numH_snoc {l:List ChoV}{c:ChoV}(h:c ∉ l):(fun q=>if q=c then some l.length else numH l q)=numH (l++[c]):=by
 funext q;unfold numH;by_cases e:q=c
 ·subst e
  rw[if_pos rfl,if_pos (by simp),List.idxOf_append,if_neg h];simp
 ·rw[if_neg e]
  by_cases hq:q∈l
  ·rw[if_pos hq,if_pos (List.mem_append_left _ hq),List.idxOf_append,if_pos hq]
  ·rw[if_neg hq,if_neg (fun h=>by
    rcases List.mem_append.1 h with h|h
    ·exact hq h
    ·simp at h;exact e h)]
theorem BoxS.rewk {B:Nat}{X:Nat->Prop}{o ty:Nat}{w0 wk wk0 w:World}{rs:List RowS}{c:Array Value}(h:BoxS B X o ty w0 wk rs c w)(hk:uN X wk0 wk)(hz:wk0.heap.size<=wk.heap.size)(hB:B<=wk0.heap.size):BoxS B X o ty w0 wk0 rs c w :=
 ⟨h.mem,h.typ,h.box,h.off,h.size,h.old,hB,h.grown,hk.trans h.kept,Nat.le_trans hz h.wk⟩
inductive BldS (w0:World)(B:Nat)(X:Nat->Prop)(o mb:Nat)(wk:World)(cs:List ChoV)(w:World):Prop
 | mk (sa:Option Addr) (cap u c:Nat) (hB:BoxS B X o 137 w0 wk (⟨B,45,.slice sa cs.length cap,cs.length,sJ cs,3⟩::[]) #[.slice sa cs.length cap,.map (some mb)] w)
  (hM:MapK 45 qAT choW w mb u c (numH cs)) (hmx:¬X mb) (hmb:w0.heap.size<=mb) (hu:u<=cs.length)
section
variable {w0 w w' wk:World} {B o mb:Nat} {X:Nat->Prop} {cs:List ChoV}
theorem BldS.facts (h:BldS w0 B X o mb wk cs w):w0.grownBy w none/\uN X wk w/\wk.heap.size<=w.heap.size/\B<=w.heap.size/\B<=wk.heap.size/\mb<w.heap.size/\o<w.heap.size:=by
 obtain⟨sa,cap,u,c,hB,hM,h0,h1,hu⟩:=h;exact⟨hB.grown,hB.kept,hB.wk,Nat.le_trans hB.base hB.wk,hB.base,hM.lt,zK hB.box⟩
theorem BldS.grow (h:BldS w0 B X o mb wk cs w)(hg:w.grownBy w' none):BldS w0 B X o mb wk cs w':=by
 obtain⟨sa,cap,u,c,hB,hM,h0,h1,hu⟩:=h;exact⟨sa,cap,u,c,hB.grow hg,hM.kept hg (by simp),h0,h1,hu⟩
theorem BldS.rebase (h:BldS w0 B X o mb wk cs w):BldS w0 B X o mb w cs w:=by
 obtain⟨sa,cap,u,c,hB,hM,h0,h1,hu⟩:=h;exact⟨sa,cap,u,c,hB.rebase,hM,h0,h1,hu⟩
theorem BldS.fresh (h:BldS w0 B X o mb wk cs w)(hg:w.grownBy w' none){Y:Nat->Prop}(hY:∀k,Y k->w.heap.size<=k/\k<w'.heap.size):BldS w0 B (fun k=>X k\/Y k) o mb w' cs w':=by
 obtain⟨sa,cap,u,c,hB,hM,h0,h1,hu⟩:=h
 exact⟨sa,cap,u,c,hB.fresh hg hY,hM.kept hg (by simp),fun e=>by
  rcases e with e|e
  ·exact h0 e
  ·have:=(hY mb e).1
   have:=hM.lt
   omega,h1,hu⟩
theorem BldS.back {X':Nat->Prop}{wk0:World}(h:BldS w0 B X' o mb wk cs w)(hX:∀q,X q->X' q)(hk:uN X wk0 wk)(hz:wk0.heap.size<=wk.heap.size)(hB:B<=wk0.heap.size):BldS w0 B X o mb wk0 cs w:=by
 obtain⟨sa,cap,u,c,h2,hM,h0,h1,hu⟩:=h;exact⟨sa,cap,u,c,(h2.less hX).rewk hk hz hB,hM,fun e=>h0 (hX _ e),h1,hu⟩
theorem BldS.cells (h:BldS w0 B X o mb wk cs w):∃sa cap u c,w.heap[o]?=some (.cells #[.slice sa cs.length cap,.map (some mb)] 137 (0,0))/\w.ownsRow B 45 3 (.slice sa cs.length cap) cs.length (sJ cs)/\MapK 45 qAT choW w mb u c (numH cs)/\u<=cs.length:=by
 obtain⟨sa,cap,u,c,hB,hM,h0,h1,hu⟩:=h;exact⟨sa,cap,u,c,hB.box,hB.own (r:=⟨B,45,.slice sa cs.length cap,cs.length,sJ cs,3⟩) (by simp),hM,hu⟩
theorem BldS.put (h:BldS w0 B X o mb wk cs w){x:ChoV}(hx:x ∉ cs){sa:Option Addr}{cap u1 c1:Nat}(hbx:w.heap[o]?=some (.cells #[.slice sa cs.length cap,.map (some mb)] 137 (0,0)))(hg:w.grownBy w' (some mb))(hM1:MapK 45 qAT choW w' mb u1 c1 (numH (cs++[x])))(hu1:u1<=cs.length+1):w'.cell? ⟨o,0,none⟩=some (.slice sa cs.length cap)/\w'.ownsRow B 45 3 (.slice sa cs.length cap) cs.length (sJ cs)/\B<=w'.heap.size/\(∀wg,w'.grownBy wg none->∀w2 s' c',w2.ownsRow B 45 3 (.slice s' (cs.length+1) c') (cs.length+1) (sJ cs++qIJ x)->wg.grownBy w2 (Value.slice sa cs.length cap).ownBlock->qS wg w2 (.slice sa cs.length cap) (.slice s' (cs.length+1) c')->w2.cell? ⟨o,0,none⟩=some (.slice sa cs.length cap)/\w2.frozen? ⟨o,0,none⟩=false/\BldS w0 B X o mb wk (cs++[x]) (w2.setCell ⟨o,0,none⟩ (.slice s' (cs.length+1) c'))):=by
 obtain⟨sa2,cap2,u2,c2,hB,hM,h3,h4,hu⟩:=h;have h0:=hB.box;rw[hbx]at h0;simp only[Option.some.injEq,Obj.cells.injEq,and_true]at h0;have h0:=congrArg Array.toList h0;simp only[List.cons.injEq,and_true,Value.slice.injEq,true_and]at h0;obtain⟨rfl,rfl⟩:=h0
 have h2:o≠mb:=fun e=>by
  obtain⟨es,clock,hb⟩:=hM.obj;rw[e,hb]at hbx;simp at hbx
 have h1:=hB.far hg (fun r hr=>yL (es:=#[]) (clock:=0) (hB.mem.own r hr) hM.obj) h3 h2 h4;have ho:=h1.own (r:=⟨B,45,.slice sa cs.length cap,cs.length,sJ cs,3⟩) (by simp);have h6:=zI h1.box 0 (by simp);simp only[List.getElem_toArray,List.getElem_cons_zero]at h6;refine⟨h6,ho,Nat.le_trans h1.base h1.wk,fun wg hwg w2 s' c' hown hg2 hmv=>?_⟩;have h8:=h1.grow hwg;have h7:=hM1.kept hwg (by simp);have h9:(Value.slice sa cs.length cap).ownBlock≠some mb:=yL (es:=#[]) (clock:=0) (zP ho hwg) h7.obj;have hA:=h8.appAt (j:=0) rfl hown hg2 hmv;have h5:=zI hA.box 0 (by simp);simp only[List.getElem_toArray,List.getElem_cons_zero]at h5;have hZ:=hA.set 0 (.slice s' (cs.length+1) c');have H0:=(h7.kept hg2 h9).kept (zC w2 ⟨o,0,none⟩ (.slice s' (cs.length+1) c')) (fun e=>h2 (Oj e));have e1:(cs++[x]).length=cs.length+1:=by rw[List.length_append];rfl
 refine⟨h5,zE hA.box 0,⟨s',c',u1,c1,?_,H0,h3,h4,by omega⟩⟩;rw[e1,dE];exact hZ
end
def conR (l:List ClaV):Int:=if qL l=true/\0<l.length then iM (l.headD default).b else 0
def ConI (l:List ClaV)(k:Nat):Prop:=∀i,i<k->(l.getD i default).b=(l.headD default).b
theorem ConI.bad {l:List ClaV}{k:Nat}(hk:k<l.length)(h:(l.getD k default).b≠(l.headD default).b):qL l=false:=by
 rw[qL,List.all_eq_false];refine⟨l[k],List.getElem_mem hk,?_⟩;rw[zG hk]at h;simpa using h
theorem ConI.all {l:List ClaV}(h:ConI l l.length):qL l=true:=by
 rw[qL,List.all_eq_true];intro c hc;obtain⟨i,hi,rfl⟩:=List.getElem_of_mem hc;have:=h i hi;rw[zG hi]at this;simp[this]
theorem constant_any (X:Nat->Prop)(w:World)(v:Value)(l:List ClaV)(h:ClsX X w v l):Calls Try.prog 112 #[v] w fun e w'=>e=.returned (.tuple #[.int .i64 (conR l),.bool (qL l)])/\w.grownBy w' none:=by
 have H6:=h.len_le;obtain⟨a,c,rfl⟩:=h.shape;obtain⟨n,hn⟩:∃n,n=l.length:=⟨_,rfl⟩;have H:=Kh h;have HN:=Kh hn;rw[<-hn]at H6 H⊢;unfold maxLen at H6;obtain⟨hb,H7⟩:∃b,b=(l.headD default).b:=⟨_,rfl⟩;have H1:=Kh H7;clear h hn H7;go_enter Try.func112,Try.ntmps112;go_wp2
 go_loopg [4,5,7,10] n (fun gh v4 v5 v7 v10 wr=>∃k:Nat,gh+k=n/\v10=.int .i64 k/\v4=.int .i64 (if k=0 then 0 else iM hb)/\ConI l k/\w.grownBy wr none)
 case atStart=>exact⟨0,rfl,rfl,rfl,fun i hi=>by omega,zH _ _⟩
 case round =>
  obtain⟨k,H8,rfl,rfl,hc,hg⟩:=hrel;have h3:=Kh H8;have HC:=Kh hc;have HG:=Kh hg;clear H8 hc;by_cases hk:k<n
  ·have a6:(k:Int)<n:=by omega
   obtain⟨b,off,cap,e,_,a0,H9,h9⟩:=(H.out.grow hg).at_ (by rw[<-HN.out];omega);rw[<-HN.out]at e a0;simp only[Value.slice.injEq,true_and]at e;obtain⟨rfl,rfl⟩:=e;have a9:c<=9223372036854775807:=by unfold maxLen at H9;omega
   have c1:=h9.m k (by rw[<-HN.out];exact hk);have c2:=h9.y k (by rw[<-HN.out];exact hk);have c3:=h9.n k (by rw[<-HN.out];exact hk);obtain⟨U,hU⟩:∃U,U=mT (l.getD k default).m:=⟨_,rfl⟩;obtain⟨y,hy⟩:∃y,y=(l.getD k default).yes:=⟨_,rfl⟩;obtain⟨z,hz⟩:∃z,z=(l.getD k default).no:=⟨_,rfl⟩;rw[<-hU]at c1;rw[<-hy]at c2;rw[<-hz]at c3;have HB:Hid ((l.getD k default).b=decide (0<=y)):=Kh (by rw[hy];rfl);have H0:=heap_alloc_new wr (.cells #[.string U,.int .i64 y,.int .i64 z] 99);have H4:=Ga wr (.cells #[.string U,.int .i64 y,.int .i64 z] 99) none;obtain⟨w2,H2⟩:∃w2,w2=wr.alloc (.cells #[.string U,.int .i64 y,.int .i64 z] 99):=⟨_,rfl⟩;obtain⟨R,hR⟩:∃R,R=wr.heap.size:=⟨_,rfl⟩;rw[<-H2]at H0 H4;rw[<-hR]at H0;have a7:=Kh H2;have a8:=Kh hR;have h6:=Kh (zA hg H4 (by simp));obtain⟨r0,r1,r2⟩:=zN H0;clear h9 a0 H9 hU hy hz H2 hR H4 H0 hg;go_upto_region 5 with fail;rw[<-a7.out,<-a8.out];clear c1 c2 c3
   have h4:Hid (∀b:Bool,(l.getD k default).b=b->b=hb->ConI l (k+1)):=Kh (fun b h1 h2 i hi=>by
    rcases Nat.lt_succ_iff_lt_or_eq.1 hi with hi|rfl
    ·exact HC.out i hi
    ·rw[h1,h2,H1.out])
   have h8:Hid (∀b:Bool,(l.getD k default).b=b->b≠hb->qL l=false):=Kh (fun b h1 h2=>ConI.bad (by rw[<-HN.out];exact hk) (by rw[h1,<-H1.out];exact h2))
   have a1:Hid (k=0->(l.getD k default).b=hb):=Kh (fun e=>by
    subst e;rw[H1.out];cases l with
    | nil=>have:=HN.out;simp at this;omega
    | cons x l=>rfl)
   by_cases hy0:(0:Int)<=y
   ·have h5:Hid ((l.getD k default).b=true):=Kh (by rw[HB.out];simp[hy0])
    by_cases hk0:k=0
    ·have HE:=Kh (a1.out hk0)
     have h7:Hid (hb=true):=Kh (by rw[<-HE.out,h5.out]);subst hk0;go_wp2;go_roundg (n-(0+1))
     case measure=>have:=h3.out;omega
     case rel=>exact⟨1,by have:=h3.out;omega,rfl,by rw[h7.out];rfl,h4.out true h5.out h7.out.symm,h6.out⟩
    ·have a5:(0:Int)<k:=by omega
     have a4:0<k:=(by omega);rw[if_neg hk0];cases hb with
     | true =>
      have e0:iM true=1:=rfl;go_wp2;go_roundg (n-(k+1))
      case measure=>have:=h3.out;omega
      case rel=>exact⟨k+1,by have:=h3.out;omega,by go_num,by rw[if_neg (by omega)];rfl,h4.out true h5.out rfl,h6.out⟩
     | false =>
      have e0:iM false=0:=rfl;have H5:=Kh (h8.out true h5.out (by simp));go_wp2;refine bodyPost_ret (v:=.tuple #[.int .i64 0,.bool false]) (by simp[results,Try.results112,go_sem]) rfl ?_;exact⟨by rw[conR,H5.out,if_neg (by simp)],h6.out⟩
   ·have h5:Hid ((l.getD k default).b=false):=Kh (by rw[HB.out];simp[hy0])
    by_cases hk0:k=0
    ·have HE:=Kh (a1.out hk0)
     have h7:Hid (hb=false):=Kh (by rw[<-HE.out,h5.out]);subst hk0;go_wp2;go_roundg (n-(0+1))
     case measure=>have:=h3.out;omega
     case rel=>exact⟨1,by have:=h3.out;omega,rfl,by rw[h7.out];rfl,h4.out false h5.out h7.out.symm,h6.out⟩
    ·have a5:(0:Int)<k:=by omega
     have a4:0<k:=(by omega);rw[if_neg hk0];cases hb with
     | false =>
      have e0:iM false=0:=rfl;go_wp2;go_roundg (n-(k+1))
      case measure=>have:=h3.out;omega
      case rel=>exact⟨k+1,by have:=h3.out;omega,by go_num,by rw[if_neg (by omega)];rfl,h4.out false h5.out rfl,h6.out⟩
     | true =>
      have e0:iM true=1:=rfl;have H5:=Kh (h8.out false h5.out (by simp));go_wp2;refine bodyPost_ret (v:=.tuple #[.int .i64 0,.bool false]) (by simp[results,Try.results112,go_sem]) rfl ?_;exact⟨by rw[conR,H5.out,if_neg (by simp)],h6.out⟩
  ·have H3:k=n:=by have:=h3.out;omega
   have a6:¬(k:Int)<n:=(by omega);have a2:Hid (qL l=true):=Kh (ConI.all (by rw[<-HN.out,<-H3];exact HC.out))
   have a3:Hid (conR l=if k=0 then 0 else iM hb):=Kh (by
    rw[conR,a2.out,H1.out,<-HN.out,<-H3];by_cases h0:k=0
    ·rw[if_neg (by omega),if_pos h0]
    ·rw[if_pos ⟨rfl,by omega⟩,if_neg h0])
   obtain⟨x,hx⟩:∃x:Int,x=if k=0 then 0 else iM hb:=⟨_,rfl⟩
   rw[<-hx]at a3⊢;clear H3 hx hg;go_wp2;refine bodyPost_ret (v:=.tuple #[.int .i64 x,.bool true]) (by simp[results,Try.results112,go_sem]) rfl ?_;exact⟨by rw[a3.out,a2.out],HG.out⟩
theorem mT_at {m:List Bool}{p:Nat}(hp:p<m.length):∃h:p<(mT m).size,((mT m)[p]'h).toNat=if m.getD p false=true then 1 else 0:=by
 refine⟨by rw[qAA];exact hp,?_⟩
 have e1:(mT m).data.toList=(mN m).map (fun x=>UInt8.ofNat x):=by
  unfold mT txtT;rw[strOfNums_data];simp[zb]
 have hq:p<(mT m).size:=by rw[qAA];exact hp
 have e2:(mT m).data.toList[p]'(by simpa using hq)=(mT m)[p]'hq:=rfl;rw[<-e2,zG hp];simp only[e1,List.getElem_map,mN]
 split<;>rfl
theorem yesL_snoc {l:List ClaV}{k p:Nat}(hk:k<l.length):yesL (l.take (k+1)) p=if (l.getD k default).m.getD p false=true then yesL (l.take k) p++[l.getD k default] else yesL (l.take k) p:=by
 rw[zT (d:=default) hk,yesL,List.filter_append,List.filter_cons,List.filter_nil]
 split<;>simp[yesL]
theorem noL_snoc {l:List ClaV}{k p:Nat}(hk:k<l.length):noL (l.take (k+1)) p=if (l.getD k default).m.getD p false=true then noL (l.take k) p else noL (l.take k) p++[l.getD k default]:=by
 rw[zT (d:=default) hk,noL,List.filter_append,List.filter_cons,List.filter_nil];cases (l.getD k default).m.getD p false<;>simp[noL]
def qJI (w:World)(l:List ClaV)(p:Nat)(e:Ending)(w':World):Prop :=
 ∃sy cy sn cn,e=.returned (.tuple #[.slice sy (yesL l p).length cy,.slice sn (noL l p).length cn])/\w'.ownsRow w.heap.size 99 3 (.slice sy (yesL l p).length cy) (yesL l p).length (sH (yesL l p))/\w'.ownsRow w.heap.size 99 3 (.slice sn (noL l p).length cn) (noL l p).length (sH (noL l p))/\w.grownBy w' none
structure Two (w:World)(ya na:Option Addr)(yc nc:Nat)(ly ln:List ClaV)(wr:World):Prop where
 y:wr.ownsRow w.heap.size 99 3 (.slice ya ly.length yc) ly.length (sH ly)
 n:wr.ownsRow w.heap.size 99 3 (.slice na ln.length nc) ln.length (sH ln)
 ne:∀k,(Value.slice ya ly.length yc).ownBlock=some k->(Value.slice na ln.length nc).ownBlock≠some k
 gr:w.grownBy wr none
theorem Two.grow {w wr w':World}{ya na:Option Addr}{yc nc:Nat}{ly ln:List ClaV}(h:Two w ya na yc nc ly ln wr)(hg:wr.grownBy w' none):Two w ya na yc nc ly ln w':=⟨zP h.y hg,zP h.n hg,h.ne,zA h.gr hg (by simp)⟩
theorem Two.pushY {w wr w':World}{ya na sa:Option Addr}{yc nc sc:Nat}{ly ln:List ClaV}{c:ClaV}(h:Two w ya na yc nc ly ln wr)(ho:w'.ownsRow w.heap.size 99 3 (.slice sa (ly.length+1) sc) (ly.length+1) (sH ly++cval c))(hg:wr.grownBy w' (Value.slice ya ly.length yc).ownBlock)(hm:qS wr w' (.slice ya ly.length yc) (.slice sa (ly.length+1) sc)):Two w sa na sc nc (ly++[c]) ln w':=by
 refine⟨by rw[List.length_append,iH];exact ho,h.n.kept hg ?_,fun k hk=>?_,zA h.gr hg (fun k e=>(h.y.lt k e).1)⟩
 ·rcases hv:(Value.slice na ln.length nc).ownBlock with _|k
  ·exact .inl rfl
  ·exact .inr (fun e=>h.ne k e.symm hv)
 ·rw[List.length_append]at hk
  rcases hm with hm|⟨_,hm⟩
  ·have e:(Value.slice sa (ly.length+1) sc).ownBlock=some k:=hk
   rw[hm]at e;exact h.ne k e
  ·have:=hm k hk
   intro e;have:=(h.n.lt k e).2;omega
theorem Two.pushN {w wr w':World}{ya na sa:Option Addr}{yc nc sc:Nat}{ly ln:List ClaV}{c:ClaV}(h:Two w ya na yc nc ly ln wr)(ho:w'.ownsRow w.heap.size 99 3 (.slice sa (ln.length+1) sc) (ln.length+1) (sH ln++cval c))(hg:wr.grownBy w' (Value.slice na ln.length nc).ownBlock)(hm:qS wr w' (.slice na ln.length nc) (.slice sa (ln.length+1) sc)):Two w ya sa yc sc ly (ln++[c]) w':=by
 refine⟨h.y.kept hg ?_,by rw[List.length_append,iH];exact ho,fun k hk e0=>?_,zA h.gr hg (fun k e=>(h.n.lt k e).1)⟩
 ·rcases hv:(Value.slice ya ly.length yc).ownBlock with _|k
  ·exact .inl rfl
  ·exact .inr (fun e=>h.ne k hv e.symm)
 ·rw[List.length_append]at e0
  rcases hm with hm|⟨_,hm⟩
  ·have e:(Value.slice sa (ln.length+1) sc).ownBlock=some k:=e0
   rw[hm]at e;exact h.ne k hk e
  ·have:=hm k e0
   have:=(h.y.lt k hk).2;omega
theorem divide_any (X:Nat->Prop)(w:World)(v:Value)(l:List ClaV)(p:Nat)(h:ClsX X w v l)(hp:∀c∈l,p<c.m.length/\c.m.length<=400)(hl:l.length<=4000):Calls Try.prog 113 #[v,.int .i64 (p:Int)] w (qJI w l p):=by
 obtain⟨a,c,rfl⟩:=h.shape;obtain⟨n,hn⟩:∃n,n=l.length:=⟨_,rfl⟩;have H:=Kh h;have HN:=Kh hn;have HP:=Kh hp;rw[<-hn]at hl H⊢;clear h hn hp;go_enter Try.func113,Try.ntmps113;go_wp2
 go_loopg [4,5,10] n (fun gh v4 v5 v10 wr=>∃(k:Nat) (ya na:Option Addr) (yc nc:Nat),gh+k=n/\v10=.int .i64 k/\v4=.slice ya (yesL (l.take k) p).length yc/\v5=.slice na (noL (l.take k) p).length nc/\Two w ya na yc nc (yesL (l.take k) p) (noL (l.take k) p) wr)
 case atStart=>exact⟨0,none,none,0,0,rfl,rfl,rfl,rfl,World.ownsRow_nil _ _ _ _,World.ownsRow_nil _ _ _ _,fun k hk=>by simp[Value.ownBlock]at hk,zH _ _⟩
 case round =>
  obtain⟨k,ya,na,yc,nc,a1,rfl,rfl,rfl,hT⟩:=hrel;have h7:=Kh a1;have HT:=Kh hT;have hg:=hT.gr;clear a1 hT;by_cases hk:k<n
  ·have a8:(k:Int)<n:=by omega
   obtain⟨b,off,cap,e,_,a3,a2,h8⟩:=(H.out.grow hg).at_ (by rw[<-HN.out];omega);rw[<-HN.out]at e a3;simp only[Value.slice.injEq,true_and]at e;obtain⟨rfl,rfl⟩:=e;have b4:c<=9223372036854775807:=by unfold maxLen at a2;omega
   have h2:k<l.length:=(by rw[<-HN.out];exact hk);have c1:=h8.m k h2;have c2:=h8.y k h2;have c3:=h8.n k h2;obtain⟨H4,H3⟩:=HP.out (l.getD k default) (by rw[zG h2];exact List.getElem_mem h2);have HY:=Kh (yesL_snoc (p:=p) h2);have h1:=Kh (noL_snoc (p:=p) h2);have a5:(yesL (l.take k) p).length+(noL (l.take k) p).length<=4000:=by rw[qAW,List.length_take];omega
   obtain⟨ly,H5⟩:∃x,x=yesL (l.take k) p:=⟨_,rfl⟩;obtain⟨ln,H6⟩:∃x,x=noL (l.take k) p:=⟨_,rfl⟩;rw[<-H5,<-H6]at HT a5;rw[<-H5]at HY⊢;rw[<-H6]at h1⊢;obtain⟨d,hd⟩:∃d,d=l.getD k default:=⟨_,rfl⟩;rw[<-hd]at c1 c2 c3 HY h1 H4 H3;obtain⟨a6,h3⟩:=mT_at H4;have H2:(mT d.m).size<=400:=by rw[qAA];exact H3
   have H9:Hid (cval d=[.string (mT d.m),.int .i64 d.yes,.int .i64 d.no]):=Kh rfl;obtain⟨U,hU⟩:∃U,U=mT d.m:=⟨_,rfl⟩;obtain⟨y,hy⟩:∃y,y=d.yes:=⟨_,rfl⟩;obtain⟨z,hz⟩:∃z,z=d.no:=⟨_,rfl⟩;rw[<-hU,<-hy,<-hz]at H9;rw[<-hy]at c2;rw[<-hz]at c3
   generalize hgu:mT d.m=U2 at a6 h3 H2 c1
   have e9:U2=U:=by rw[<-hgu,hU]
   subst e9;clear hgu hU;have b3:(p:Int)<U2.size:=(by omega);have h9:=heap_alloc_new wr (.cells #[.string U2,.int .i64 y,.int .i64 z] 99);have H7:=Ga wr (.cells #[.string U2,.int .i64 y,.int .i64 z] 99) none;obtain⟨w2,H0⟩:∃w2,w2=wr.alloc (.cells #[.string U2,.int .i64 y,.int .i64 z] 99):=⟨_,rfl⟩;obtain⟨R,hR⟩:∃R,R=wr.heap.size:=⟨_,rfl⟩;rw[<-H0]at h9 H7;rw[<-hR]at h9;have a9:=Kh H0;have b0:=Kh hR;have h6:=Kh (HT.out.grow H7);have a0:=h6.out.gr.size;obtain⟨r0,r1,r2⟩:=zN h9;obtain⟨bo,a4⟩:∃bo,bo=d.m.getD p false:=⟨_,rfl⟩;rw[<-a4]at h3 HY h1;clear h8 a3 a2 hy hz H0 hR H7 h9 hg hd a4 HT H4 H3 H5 H6;go_upto_region 4 with fail;rw[<-a9.out,<-b0.out];clear c1 c2 c3;cases bo with
   | true =>
    rw[if_pos rfl]at h3 HY h1;have H1:((U2[p].toNat:Nat):Int)=1:=by rw[h3];rfl
    have b1:=Kh h6.out.y;go_wp2_with (first|(at_builtin;refine vV rfl _ _ _ rfl qAI w.heap.size (.slice ya ly.length yc) ly.length (sH ly) rfl b1.out [.string U2,.int .i64 y,.int .i64 z] rfl rfl ?z1 ?z2 ?z3 ?z4 ?_;(case z1=>(intro v hv;simp only[List.mem_cons,List.not_mem_nil,or_false]at hv;rcases hv with rfl|rfl|rfl<;>rfl));(case z2=>(unfold maxLen;omega));(case z3=>(show (ly.length+1)*32<=140737488355328;omega));(case z4=>exact a0);intro sv cv wM h0 h5 h4;(have H8:=Kh (h6.out.pushY (c:=d) (by rw[H9.out];exact h0) h5 h4));clear h0 h5 h4)|fail);go_wp2;go_roundg (n-(k+1))
    case measure=>have:=h7.out;omega
    case rel=>exact⟨k+1,sv,na,cv,nc,by have:=h7.out;omega,by go_num,by rw[HY.out,List.length_append];rfl,by rw[h1.out],by rw[HY.out,h1.out];exact H8.out⟩
   | false =>
    rw[if_neg (by simp)]at h3 HY h1;have H1:((U2[p].toNat:Nat):Int)=0:=by rw[h3];rfl
    have b2:=Kh h6.out.n;go_wp2_with (first|(at_builtin;refine vV rfl _ _ _ rfl qAI w.heap.size (.slice na ln.length nc) ln.length (sH ln) rfl b2.out [.string U2,.int .i64 y,.int .i64 z] rfl rfl ?z1 ?z2 ?z3 ?z4 ?_;(case z1=>(intro v hv;simp only[List.mem_cons,List.not_mem_nil,or_false]at hv;rcases hv with rfl|rfl|rfl<;>rfl));(case z2=>(unfold maxLen;omega));(case z3=>(show (ln.length+1)*32<=140737488355328;omega));(case z4=>exact a0);intro sv cv wM h0 h5 h4;(have H8:=Kh (h6.out.pushN (c:=d) (by rw[H9.out];exact h0) h5 h4));clear h0 h5 h4)|fail);go_wp2;go_roundg (n-(k+1))
    case measure=>have:=h7.out;omega
    case rel=>exact⟨k+1,ya,sv,yc,cv,by have:=h7.out;omega,by go_num,by rw[HY.out],by rw[h1.out,List.length_append];rfl,by rw[HY.out,h1.out];exact H8.out⟩
  ·have a7:k=n:=by have:=h7.out;omega
   have a8:¬(k:Int)<n:=(by omega);have HE:Hid (l.take k=l):=Kh (List.take_of_length_le (by rw[<-HN.out];omega));rw[HE.out]at HT⊢;clear a7 hg;go_wp2;refine bodyPost_ret (v:=.tuple #[.slice ya (yesL l p).length yc,.slice na (noL l p).length nc]) (by simp[results,Try.results113,go_sem]) rfl ?_;exact⟨ya,yc,na,nc,rfl,HT.out.y,HT.out.n,HT.out.gr⟩
theorem bd_put {Q:Exit->Act->World->Prop}{v1 v2 v3 v4 v5 v6 v7 v8 v9 v10 v13 v14 v15 v16 v17 v18 v19 v20 v21 v22 v23 v24 v25 v26 v27 v28 v29 v30 v31 v32 v33 v34 v35 v36 v37 v38 v39 v40 v41 v42 v43 v44 v45 v46 v47 v48 v49 v50 v51 v52 v53 v54 v55 v56 v57 v58 v59 v60 v61 v62 v63 v64 v65 v66 v67 v68 v69 v70 v71 v72 v73 v74 v75 v76 v77 v78 v79 v80 v81 v82 v83 v84 v85 v86 v87 v88:Value}{dd:_}{w:World}{o mb R q a b m2 u c:Nat}{f:ChoV->Option Nat}{x:ChoV}(hc:w.cell? ⟨o,1,none⟩=some (.map (some mb))/\w.cell? ⟨R,0,none⟩=some (.int .i64 (q:Int))/\w.cell? ⟨R,1,none⟩=some (.int .i64 (a:Int))/\w.cell? ⟨R,2,none⟩=some (.int .i64 (b:Int)))(hM:MapK 45 qAT choW w mb u c f)(hu:u<maxLen)(hxo:qAT x)(hxw:choW x=.agg #[.int .i64 (q:Int),.int .i64 (a:Int),.int .i64 (b:Int)])(hm2:m2<4611686018427387904)(hexit:∀(z71 z72 z73 z74 z75 z76:Value) (w':World),MapK 45 qAT choW w' mb (u+1) (if (f x).isSome then c else c+1) (fun q=>if q=x then some m2 else f q)->w.grownBy w' (some mb)->Q .normal ⟨((Value.pointer (some ⟨o,0,none⟩))::v1::v2::v3::v4::v5::v6::v7::v8::v9::v10::(Value.pointer (some ⟨R,0,none⟩))::(Value.int .i64 (m2:Int))::v13::v14::v15::v16::v17::v18::v19::v20::v21::v22::v23::v24::v25::v26::v27::v28::v29::v30::v31::v32::v33::v34::v35::v36::v37::v38::v39::v40::v41::v42::v43::v44::v45::v46::v47::v48::v49::v50::v51::v52::v53::v54::v55::v56::v57::v58::v59::v60::v61::v62::v63::v64::v65::v66::v67::v68::v69::v70::z71::z72::z73::z74::z75::z76::v77::v78::v79::v80::v81::v82::v83::v84::v85::v86::v87::v88::[]).toArray,dd⟩ w'):Code.wp Try.prog (reg Try.f86 13) Q ⟨((Value.pointer (some ⟨o,0,none⟩))::v1::v2::v3::v4::v5::v6::v7::v8::v9::v10::(Value.pointer (some ⟨R,0,none⟩))::(Value.int .i64 (m2:Int))::v13::v14::v15::v16::v17::v18::v19::v20::v21::v22::v23::v24::v25::v26::v27::v28::v29::v30::v31::v32::v33::v34::v35::v36::v37::v38::v39::v40::v41::v42::v43::v44::v45::v46::v47::v48::v49::v50::v51::v52::v53::v54::v55::v56::v57::v58::v59::v60::v61::v62::v63::v64::v65::v66::v67::v68::v69::v70::v71::v72::v73::v74::v75::v76::v77::v78::v79::v80::v81::v82::v83::v84::v85::v86::v87::v88::[]).toArray,dd⟩ w:=by
 conv=>arg 2;whnf
 obtain⟨w6,h6⟩:∃w6,w6=w.drew:=⟨_,rfl⟩;have h0:w.grownBy w6 none:=by rw[h6];exact zO w none
 have H0:=Kh h6;have H1:=Kh h0;have HM:=Kh (hM.kept h0 (by simp));have C:Hid (w6.cell? ⟨o,1,none⟩=some (.map (some mb))/\w6.cell? ⟨R,0,none⟩=some (.int .i64 (q:Int))/\w6.cell? ⟨R,1,none⟩=some (.int .i64 (a:Int))/\w6.cell? ⟨R,2,none⟩=some (.int .i64 (b:Int))):=Kh ⟨xK hc.1 h0,xK hc.2.1 h0,xK hc.2.2.1 h0,xK hc.2.2.2 h0⟩;have h9:=Kh hxw;clear h6 h0 hc hM hxw;refine wp_region_noPanic ?_;refine yY (G:=uI 6 (fun _=>True) (fun W=>W.cell? ⟨o,1,none⟩=some (.map (some mb))/\W.cell? ⟨R,0,none⟩=some (.int .i64 (q:Int))/\W.cell? ⟨R,1,none⟩=some (.int .i64 (a:Int))/\W.cell? ⟨R,2,none⟩=some (.int .i64 (b:Int)))) (by kernel_rfl) ?_;rw[<-H0.out];refine zV 0 ⟨trivial,fun _=>C.out⟩ ?_;refine zV 1 ⟨trivial,fun _=>C.out⟩ ?_;refine zV 2 ⟨trivial,fun _=>C.out⟩ ?_;refine qIH (i:=3) (v:=.map (some mb)) rfl rfl (by kernel_rfl) (by rfl) (by kernel_rfl) (by kernel_rfl) (by kernel_rfl) (fun _ _ _ h=>h) (Or.inl ⟨by rfl,?_⟩) ⟨trivial,fun _=>C.out⟩ ?_
 ·(rintro wz ⟨-,hz⟩;obtain⟨h1,h2,h3,h4⟩:=hz;go_simp;(try with_reducible rfl))
 try simp only[Act.put,sPa,sPb,sPc]
 refine qIH (i:=4) (v:=.agg #[.int .i64 (q:Int),.int .i64 (a:Int),.int .i64 (b:Int)]) rfl rfl (by kernel_rfl) (by rfl) (by kernel_rfl) (by kernel_rfl) (by kernel_rfl) (fun _ _ _ h=>h) (Or.inl ⟨by rfl,?_⟩) ⟨trivial,fun _=>C.out⟩ ?_
 ·(rintro wz ⟨-,hz⟩;obtain⟨h1,h2,h3,h4⟩:=hz;go_simp;(try with_reducible rfl))
 try simp only[Act.put,sPa,sPb,sPc]
 refine zV 5 ⟨trivial,fun _=>C.out⟩ ?_;obtain⟨w7,r7,h5,h8,h7⟩:=HM.out.upd qHN (z:=x) (y:=m2) hu hxo hm2;rw[h9.out]at h5;refine oneG (i:=6) (by kernel_rfl) rfl (fun K hK=>?_);go_simp;clear h5;refine hK.out _ _ ⟨trivial,fun h=>by simp at h⟩ ?_;clear hK K
 try simp only[Act.put,sPa,sPb,sPc]
 refine rP (by kernel_rfl) ?_ _;refine NoPanic.normal ?_;exact hexit _ _ _ _ _ _ _ h8 (xZ H1.out h7 (.inl rfl) (.inr (.inl rfl)))
theorem bd_app {Q:Exit->Act->World->Prop}{v1 v2 v3 v4 v5 v6 v7 v8 v9 v10 v12 v13 v14 v15 v16 v17 v18 v19 v20 v21 v22 v23 v24 v25 v26 v27 v28 v29 v30 v31 v32 v33 v34 v35 v36 v37 v38 v39 v40 v41 v42 v43 v44 v45 v46 v47 v48 v49 v50 v51 v52 v53 v54 v55 v56 v57 v58 v59 v60 v61 v62 v63 v64 v65 v66 v67 v68 v69 v70 v71 v72 v73 v74 v75 v76 v77 v78 v79 v80 v81 v82 v83 v84 v85 v86 v87 v88:Value}{dd:_}{w:World}{B o R q a b m2 cap:Nat}{sa:Option Addr}{xs:List Value}{P:World->Prop}(hc:w.cell? ⟨o,0,none⟩=some (.slice sa m2 cap)/\w.cell? ⟨R,0,none⟩=some (.int .i64 (q:Int))/\w.cell? ⟨R,1,none⟩=some (.int .i64 (a:Int))/\w.cell? ⟨R,2,none⟩=some (.int .i64 (b:Int)))(ho:w.ownsRow B 45 3 (.slice sa m2 cap) m2 xs)(hB:B<=w.heap.size)(hm2:m2<=1000000)(hol:o<w.heap.size)(hE:∀wg,w.grownBy wg none->∀w2 s' c',w2.ownsRow B 45 3 (.slice s' (m2+1) c') (m2+1) (xs++[.int .i64 (q:Int),.int .i64 (a:Int),.int .i64 (b:Int)])->wg.grownBy w2 (Value.slice sa m2 cap).ownBlock->qS wg w2 (.slice sa m2 cap) (.slice s' (m2+1) c')->w2.cell? ⟨o,0,none⟩=some (.slice sa m2 cap)/\w2.frozen? ⟨o,0,none⟩=false/\P (w2.setCell ⟨o,0,none⟩ (.slice s' (m2+1) c')))(hexit:∀(z77 z78 z79 z80 z81 z82 z83 z84 z85 z86:Value) (w':World),P w'->Q .normal ⟨((Value.pointer (some ⟨o,0,none⟩))::v1::v2::v3::v4::v5::v6::v7::v8::v9::v10::(Value.pointer (some ⟨R,0,none⟩))::v12::v13::v14::v15::v16::v17::v18::v19::v20::v21::v22::v23::v24::v25::v26::v27::v28::v29::v30::v31::v32::v33::v34::v35::v36::v37::v38::v39::v40::v41::v42::v43::v44::v45::v46::v47::v48::v49::v50::v51::v52::v53::v54::v55::v56::v57::v58::v59::v60::v61::v62::v63::v64::v65::v66::v67::v68::v69::v70::v71::v72::v73::v74::v75::v76::z77::z78::z79::z80::z81::z82::z83::z84::z85::z86::v87::v88::[]).toArray,dd⟩ w'):Code.wp Try.prog (reg Try.f86 14) Q ⟨((Value.pointer (some ⟨o,0,none⟩))::v1::v2::v3::v4::v5::v6::v7::v8::v9::v10::(Value.pointer (some ⟨R,0,none⟩))::v12::v13::v14::v15::v16::v17::v18::v19::v20::v21::v22::v23::v24::v25::v26::v27::v28::v29::v30::v31::v32::v33::v34::v35::v36::v37::v38::v39::v40::v41::v42::v43::v44::v45::v46::v47::v48::v49::v50::v51::v52::v53::v54::v55::v56::v57::v58::v59::v60::v61::v62::v63::v64::v65::v66::v67::v68::v69::v70::v71::v72::v73::v74::v75::v76::v77::v78::v79::v80::v81::v82::v83::v84::v85::v86::v87::v88::[]).toArray,dd⟩ w:=by
 conv=>arg 2;whnf
 obtain⟨w8,h9⟩:∃w8,w8=w.drew:=⟨_,rfl⟩;have h6:w.grownBy w8 none:=by rw[h9];exact zO w none
 have H9:=Kh h9;have H7:=Kh h6;have HO:=Kh ho;have HE:=Kh hE;have C:Hid (w8.cell? ⟨o,0,none⟩=some (.slice sa m2 cap)/\w8.cell? ⟨R,0,none⟩=some (.int .i64 (q:Int))/\w8.cell? ⟨R,1,none⟩=some (.int .i64 (a:Int))/\w8.cell? ⟨R,2,none⟩=some (.int .i64 (b:Int))):=Kh ⟨xK hc.1 h6,xK hc.2.1 h6,xK hc.2.2.1 h6,xK hc.2.2.2 h6⟩;have a2:B<=w8.heap.size:=Nat.le_trans hB h6.size;have a0:Hid (o<w8.heap.size):=Kh (Nat.lt_of_lt_of_le hol h6.size);clear h9 h6 hc ho hE hB hol;refine wp_region_noPanic ?_;refine yY (G:=uI 7 (fun _=>True) (fun W=>W.cell? ⟨o,0,none⟩=some (.slice sa m2 cap)/\W.cell? ⟨R,0,none⟩=some (.int .i64 (q:Int))/\W.cell? ⟨R,1,none⟩=some (.int .i64 (a:Int))/\W.cell? ⟨R,2,none⟩=some (.int .i64 (b:Int)))) (by kernel_rfl) ?_;rw[<-H9.out];refine zV 0 ⟨trivial,fun _=>C.out⟩ ?_;refine zV 1 ⟨trivial,fun _=>C.out⟩ ?_;refine zV 2 ⟨trivial,fun _=>C.out⟩ ?_;refine zV 3 ⟨trivial,fun _=>C.out⟩ ?_;refine qIH (i:=4) (v:=.slice sa m2 cap) rfl rfl (by kernel_rfl) (by rfl) (by kernel_rfl) (by kernel_rfl) (by kernel_rfl) (fun _ _ _ h=>h) (Or.inl ⟨by rfl,?_⟩) ⟨trivial,fun _=>C.out⟩ ?_
 ·(rintro wz ⟨-,hz⟩;obtain⟨h1,h2,h3,h4⟩:=hz;go_simp;(try with_reducible rfl))
 try simp only[Act.put,sPa,sPb,sPc]
 obtain⟨k1,k2,k3,k4⟩:=C.out;refine oneG (i:=5) (by kernel_rfl) rfl (fun K hK=>?_);go_simp;refine hK.out _ _ ⟨trivial,fun _=>C.out⟩ ?_;clear hK K k1 k2 k3 k4
 try simp only[Act.put,sPa,sPb,sPc]
 refine oneG (i:=6) (by kernel_rfl) rfl (fun K hK=>?_);go_simp;have h7:=heap_alloc_new w8 (.cells #[.int .i64 (q:Int),.int .i64 (a:Int),.int .i64 (b:Int)] 45);have h0:=Ga w8 (.cells #[.int .i64 (q:Int),.int .i64 (a:Int),.int .i64 (b:Int)] 45) none;have h8:=zL w8 (.cells #[.int .i64 (q:Int),.int .i64 (a:Int),.int .i64 (b:Int)] 45);obtain⟨w9,H2⟩:∃w9,w9=w8.alloc (.cells #[.int .i64 (q:Int),.int .i64 (a:Int),.int .i64 (b:Int)] 45):=⟨_,rfl⟩;obtain⟨R9,H6⟩:∃R9,R9=w8.heap.size:=⟨_,rfl⟩;rw[<-H2]at h7 h0 h8⊢;rw[<-H6]at h7⊢;have H1:Hid (o<w9.heap.size):=Kh (Nat.lt_of_lt_of_le a0.out h0.size);refine hK.out _ _ ⟨trivial,fun _=>⟨xK C.out.1 h0,xK C.out.2.1 h0,xK C.out.2.2.1 h0,xK C.out.2.2.2 h0⟩⟩ ?_;clear hK K
 try simp only[Act.put,sPa,sPb,sPc]
 have H3:=zP HO.out (zD H7.out h0);refine oneG (i:=7) (by kernel_rfl) rfl (fun K hK=>?_);refine tY rfl (.tmp 81) (.tmp 83) 23 rfl qFJ B _ _ _ rfl H3 [.int .i64 (q:Int),.int .i64 (a:Int),.int .i64 (b:Int)] _ rfl (0,0) rfl h7 ?g0 ?g1 ?g2 ?g3 ?_
 case g0=>intro v hv;simp only[List.mem_cons,List.not_mem_nil,or_false]at hv;rcases hv with rfl|rfl|rfl<;>rfl
 case g1=>unfold maxLen;omega
 case g2=>show (m2+1)*24<=140737488355328;omega
 case g3=>rw[h8];omega
 intro s2 cap2 wM h5 H0 H4;obtain⟨k0,f0,H5⟩:=HE.out w9 (zD H7.out h0) wM s2 cap2 h5 H0 H4;have H8:o<wM.heap.size:=Nat.lt_of_lt_of_le H1.out H0.size;refine hK.out _ _ ⟨trivial,fun h=>by simp at h⟩ ?_;clear hK K h5 H0 H4 H3 h7 h0 h8 H2 H6 C
 try simp only[Act.put,sPa,sPb,sPc]
 have a1:=Kh H5;clear H5;refine oneG (i:=8) (by kernel_rfl) rfl (fun K hK=>?_);go_simp;refine hK.out _ _ ⟨trivial,fun h=>by simp at h⟩ ?_;clear hK K
 try simp only[Act.put,sPa,sPb,sPc]
 refine oneG (i:=9) (by kernel_rfl) rfl (fun K hK=>?_);go_simp;refine hK.out _ _ ⟨trivial,fun h=>by simp at h⟩ ?_;clear hK K
 try simp only[Act.put,sPa,sPb,sPc]
 refine oneG (i:=10) (by kernel_rfl) rfl (fun K hK=>?_);go_simp;refine hK.out _ _ ⟨trivial,fun h=>by simp at h⟩ ?_;clear hK K
 try simp only[Act.put,sPa,sPb,sPc]
 refine rP (by kernel_rfl) ?_ _;refine NoPanic.normal ?_;exact hexit _ _ _ _ _ _ _ _ _ _ _ a1.out
def qIN (w0:World)(B:Nat)(X:Nat->Prop)(o mb np:Nat)(w:World)(cs:List ChoV)(l:List ClaV)(p:Nat)(e:Ending)(w':World):Prop :=
 ∃cs' r,e=.returned (.int .i64 r)/\BldS w0 B X o mb w cs' w'/\DecOk np cs cs' l p r
theorem iL {w:World}{p e:Nat}{x0 x1:Value}{m:Nat×Nat}(h:w.heap[p]?=some (.cells #[x0,x1] e m)):w.cell? ⟨p,0,none⟩=some x0/\w.cell? ⟨p,1,none⟩=some x1:=by
 have c0:=zI h 0 (by simp);have c1:=zI h 1 (by simp);exact⟨by simpa using c0,by simpa using c1⟩
theorem alike_more {l:List ClaV}{np p:Nat}(hc:ClsOk np l)(ha:jU l p)(hk:qL l=false)(hp:p<=np):p<np:=by
 rcases Nat.lt_or_ge p np with h|h
 ·exact h
 ·have:p=np:=by omega
  subst this;have:=const_of_one (ha.one hc);rw[this]at hk;cases hk
theorem const_all {l:List ClaV}(h:qL l=true):∀c∈l,c.b=(l.headD default).b:=fun c hc=>by
 rw[qL,List.all_eq_true]at h
 simpa using h c hc
theorem BldS.end_ {w0 w w1 w':World}{B o mb:Nat}{X Y:Nat->Prop}{cs c0 cs':List ChoV}(h0:BldS w0 B X o mb w cs w)(hg:w.grownBy w1 none)(h1:BldS w0 B (fun k=>X k\/Y k) o mb w1 c0 w')(h:BldS w0 B (fun k=>X k\/Y k) o mb w1 cs' w'):BldS w0 B X o mb w cs' w':=by
 obtain⟨sa,cap,u,c,hB,hM,h2,h3,hu⟩:=h0;exact h.back (fun q hq=>.inl hq) (hB.mem.keep hg) hg.size hB.base
theorem bdecide_any (w0:World)(B o mb np:Nat)(hnp:np<=300)(N:Nat):∀(X:Nat->Prop) (w:World) (v:Value) (l:List ClaV) (cs:List ChoV) (p:Nat),l.length<=N->0<l.length->ClsX X w v l->BldS w0 B X o mb w cs w->ClsOk np l->jU l p->p<=np->wH np cs cs.length->cs.Nodup->cs.length+l.length<=4000->Calls Try.prog 86 #[.pointer (some ⟨o,0,none⟩),v,.int .i64 (p:Int)] w (qIN w0 B X o mb np w cs l p):=by
 induction N with
 | zero=>intro X w v l cs p hN h0;omega
 | succ N IH0 =>
  intro X w v l cs p hN h0 hv hb g0 ha hp g1 f5 i6;have IH:=Kh IH0;clear IH0;obtain⟨va,vc,rfl⟩:=hv.shape;obtain⟨n,hn⟩:∃n,n=l.length:=⟨_,rfl⟩;have HN:=Kh hn;have HV:=Kh hv;have HB:=Kh hb;have c0:=Kh g0;have HA:=Kh ha;have i0:=Kh g1;have g8:=Kh f5;rw[<-hn]at HV hN h0 i6⊢;have H4:Hid (Calls Try.prog 112 #[.slice va n vc] w fun e w'=>e=.returned (.tuple #[.int .i64 (conR l),.bool (qL l)])/\w.grownBy w' none):=Kh (constant_any X w _ l HV.out);obtain⟨cb,d5⟩:∃cb,cb=qL l:=⟨_,rfl⟩;obtain⟨cr,d4⟩:∃cr,cr=conR l:=⟨_,rfl⟩;rw[<-d5,<-d4]at H4;have f1:=Kh d5;have k0:=Kh d4;clear hv hb g0 ha g1 f5 hn d5 d4;go_enter Try.func86,Try.ntmps86;go_wp2_with fail;refine H4.out.mono ?_;rintro e w1 ⟨rfl,H9⟩;have h9:=Kh H9;clear H9 H4;cases cb with
  | true =>
   go_wp2;go_ret;refine⟨cs,cr,rfl,HB.out.grow h9.out,?_⟩;have e1:cr=iM (l.headD default).b:=by rw[k0.out,conR,if_pos ⟨f1.out.symm,by rw[<-HN.out];exact h0⟩]
   rw[e1];exact DecOk.const i0.out g8.out (by rw[<-HN.out];exact h0) (const_all f1.out.symm)
  | false =>
   go_wp2
   go_loopg [2,9,10,11,12,13] (np-p) (fun gh v2 v9 v10 v11 v12 v13 wr=>∃q:Nat,gh+q=np/\p<=q/\v2=.int .i64 q/\jU l q/\w.grownBy wr none)
   case atStart=>exact⟨p,by omega,Nat.le_refl _,rfl,HA.out,h9.out⟩
   case round =>
    clear h9 HA w1;obtain⟨q,f7,c8,rfl,d7,hg⟩:=hrel;have f4:q<np:=alike_more c0.out d7 f1.out.symm (by omega);have g9:=Kh f7;have c3:=Kh d7;have HG:=Kh hg;have H8:l.length=n:=HN.out.symm;have a6:Hid (Calls Try.prog 113 #[.slice va n vc,.int .i64 (q:Int)] wr (qJI wr l q)):=Kh (divide_any X wr _ l q (HV.out.grow hg) (fun c hc=>by rw[c0.out.len c hc];omega) (by omega));have g3:Hid ((yesL l q).length+(noL l q).length=n):=Kh (by rw[qAW,H8]);clear f7 d7 hg H8;go_wp2_with fail;refine a6.out.mono ?_;rintro e w1 ⟨sy,cy,sn,cn,rfl,a8,a9,H9⟩;obtain⟨ly,b4⟩:∃x,x=yesL l q:=⟨_,rfl⟩;obtain⟨ln,b5⟩:∃x,x=noL l q:=⟨_,rfl⟩;rw[<-b4,<-b5]at g3;rw[<-b4]at a8⊢;rw[<-b5]at a9⊢;have H1:=Kh b4;have H2:=Kh b5;have h9:=Kh (zA HG.out H9 (by simp));have i4:=g3.out;obtain⟨my,b2⟩:∃m,m=ly.length:=⟨_,rfl⟩;obtain⟨mn,b3⟩:∃m,m=ln.length:=⟨_,rfl⟩;rw[<-b2,<-b3]at i4;rw[<-b2]at a8⊢;rw[<-b3]at a9⊢;have h8:=Kh b2;have h6:=Kh b3;have d9:=Kh a8;have e2:=Kh a9;have HZ:Hid (w.heap.size<=wr.heap.size):=Kh HG.out.size;clear b4 b5 b2 b3 H9 a8 a9 a6;by_cases hy0:my=0
    ·have d8:=Kh (c3.out.skip (p:=q) (.inl (by rw[<-H1.out,<-h8.out];exact hy0)))
     subst hy0;go_wp2;go_roundg (np-(q+1))
     case measure=>have:=g9.out;omega
     case rel=>exact⟨q+1,by omega,by omega,by go_num,d8.out,h9.out⟩
    by_cases hn0:mn=0
    ·have d8:=Kh (c3.out.skip (p:=q) (.inr (by rw[<-H2.out,<-h6.out];exact hn0)))
     have c4:¬(my:Int)=0:=by omega
     have i5:((my:Int) == 0)=false:=by rw[beq_eq_false_iff_ne];exact c4
     subst hn0;go_wp2;go_roundg (np-(q+1))
     case measure=>have:=g9.out;omega
     case rel=>exact⟨q+1,by omega,by omega,by go_num,d8.out,h9.out⟩
    have c4:¬(my:Int)=0:=by omega
    have i8:¬(mn:Int)=0:=by omega
    have i5:((my:Int) == 0)=false:=by rw[beq_eq_false_iff_ne];exact c4
    have k4:((mn:Int) == 0)=false:=by rw[beq_eq_false_iff_ne];exact i8
    obtain⟨Y,hY⟩:∃Y:Nat->Prop,Y=fun k=>(Value.slice sy my cy).ownBlock=some k\/(Value.slice sn mn cn).ownBlock=some k:=⟨_,rfl⟩
    have j2:Hid (∀k,Y k->w.heap.size<=k/\k<w1.heap.size):=Kh (fun k hk=>by
     rw[hY]at hk;have:=HZ.out;rcases hk with hk|hk
     ·have:=d9.out.lt k hk;omega
     ·have:=e2.out.lt k hk;omega)
    have i3:=Kh (HB.out.fresh h9.out j2.out)
    have g6:Hid (ClsX (fun k=>X k\/Y k) w1 (.slice sy my cy) ly):=Kh (by
     have:=d9.out;rw[h8.out]at this⊢
     exact kJ this (fun k hk=>.inr (by rw[hY,h8.out];exact .inl hk)))
    have g7:Hid (ClsX (fun k=>X k\/Y k) w1 (.slice sn mn cn) ln):=Kh (by
     have:=e2.out;rw[h6.out]at this⊢
     exact kJ this (fun k hk=>.inr (by rw[hY,h6.out];exact .inr hk)))
    have e9:Hid (Calls Try.prog 86 #[.pointer (some ⟨o,0,none⟩),.slice sn mn cn,.int .i64 ((q+1:Nat):Int)] w1 (qIN w0 B (fun k=>X k\/Y k) o mb np w1 cs ln (q+1))):=Kh (IH.out (fun k=>X k\/Y k) w1 _ ln cs (q+1) (by rw[<-h6.out];omega) (by rw[<-h6.out];omega) g7.out i3.out (by rw[H2.out];exact c0.out.sub List.filter_sublist) (by rw[H2.out];exact c3.out.no) (by omega) i0.out g8.out (by rw[<-h6.out];omega));have e5:((q+1:Nat):Int)=(q:Int)+1:=by omega
    rw[e5]at e9;have e6:IntKind.i64.wrap ((q:Int)+1)=(q:Int)+1:=tW (by omega);have e7:(q:Int)+1-1=(q:Int):=by omega
    have e8:IntKind.i64.wrap ((q:Int)+1-1)=(q:Int):=by rw[e7];exact tW (by omega)
    clear hY d9 e2 e5;go_wp2_with fail;refine e9.out.mono ?_;rintro e w2 ⟨c1,rn,rfl,a3,a1⟩;have i2:=Kh a3;have a7:=Kh a1;have f8:=a1.few;have a4:=Kh (g6.out.kept a3.facts.2.1 a3.facts.2.2.1);have e4:Hid (Calls Try.prog 86 #[.pointer (some ⟨o,0,none⟩),.slice sy my cy,.int .i64 ((q+1:Nat):Int)] w2 (qIN w0 B (fun k=>X k\/Y k) o mb np w2 c1 ly (q+1))):=Kh (IH.out (fun k=>X k\/Y k) w2 _ ly c1 (q+1) (by rw[<-h8.out];omega) (by rw[<-h8.out];omega) a4.out a3.rebase (by rw[H1.out];exact c0.out.sub List.filter_sublist) (by rw[H1.out];exact c3.out.yes) (by omega) a1.ok a1.nd (by rw[<-h8.out];rw[<-h6.out]at f8;omega));rw[show ((q+1:Nat):Int)=(q:Int)+1 by omega]at e4;rw[<-h6.out]at f8;clear a3 a1 e9 g6 g7;go_wp2_with fail;refine e4.out.mono ?_;rintro e w3 ⟨c2,ry,rfl,g2,H5⟩;have a0:=H5.few;rw[<-h8.out]at a0;have j0:=a7.out.lo;have i9:=H5.lo;have d1:=H5.hi;have d2:rn<=1+(c2.length:Int):=by have:=a7.out.hi;have:=H5.pre.length_le;omega
    have f3:Hid (BldS w0 B X o mb w c2 w3):=Kh (by
     have h1:=i2.out.facts;have h2:BldS w0 B (fun k=>X k\/Y k) o mb w1 c2 w3:=g2.back (fun _ h=>h) h1.2.1 h1.2.2.1 h1.2.2.2.2.1
     exact HB.out.end_ h9.out h2 h2)
    have f0:=Kh H5;obtain⟨a,rfl⟩:∃a:Nat,ry=(a:Int):=⟨ry.toNat,by omega⟩;obtain⟨b,rfl⟩:∃b:Nat,rn=(b:Int):=⟨rn.toNat,by omega⟩;clear g2 H5 e4 i2 a4 i3;have a2:=heap_alloc_new w3 (.cells #[.int .i64 (q:Int),.int .i64 (a:Int),.int .i64 (b:Int)] 45);have d3:=Ga w3 (.cells #[.int .i64 (q:Int),.int .i64 (a:Int),.int .i64 (b:Int)] 45) none;obtain⟨w4,c6⟩:∃w4,w4=w3.alloc (.cells #[.int .i64 (q:Int),.int .i64 (a:Int),.int .i64 (b:Int)] 45):=⟨_,rfl⟩;obtain⟨R,hR⟩:∃R,R=w3.heap.size:=⟨_,rfl⟩;rw[<-c6]at a2 d3;rw[<-hR]at a2;have j3:=Kh c6;have j4:=Kh hR;have i1:=Kh a2;have h7:=Kh (f3.out.grow d3);have k3:R≠o:=(by have:=f3.out.facts.2.2.2.2.2.2;omega);have i7:R≠mb:=(by have:=f3.out.facts.2.2.2.2.2.1;omega);obtain⟨r0,r1,r2⟩:=zN a2;clear c6 hR a2 d3;go_upto_region 8 with fail;rw[<-j3.out,<-j4.out];by_cases hab:a=b
    ·have j7:=Kh (DecOk.same (by rw[<-H2.out];exact a7.out) (by rw[<-H1.out];exact f0.out) (by rw[hab]))
     subst hab;go_wp2;go_ret;exact⟨c2,_,rfl,h7.out,iG j7.out c8⟩
    have j1:¬(a:Int)=(b:Int):=by omega
    obtain⟨x,hx⟩:∃x:ChoV,x=⟨(q:Int),(a:Int),(b:Int)⟩:=⟨_,rfl⟩;have HX:=Kh hx;have g5:Hid (qAT x):=Kh (by rw[hx];exact⟨⟨by show (0:Int)<=q;omega,by show (q:Int)<_;omega⟩,⟨by show (0:Int)<=a;omega,by show (a:Int)<_;omega⟩,⟨by show (0:Int)<=b;omega,by show (b:Int)<_;omega⟩⟩);have g4:Hid (choW x=.agg #[.int .i64 (q:Int),.int .i64 (a:Int),.int .i64 (b:Int)]):=Kh (by rw[hx];rfl);obtain⟨sa,cap,u,c,d6,c9,H6,hu⟩:=h7.out.cells;obtain⟨b0,b1⟩:=iL d6;have f2:=Kh d6;have a5:=Kh H6;have HU:=Kh hu
    have h4:∀q':Nat,Sem.run Try.prog (Instr.lookup 135 (.map (some mb)) (.agg #[.int .i64 (q:Int),.int .i64 (a:Int),.int .i64 (b:Int)]) true) (w4.drewN q')=.ok (.tuple #[.int .i64 (((numH c2 x).getD 0:Nat):Int),.bool (numH c2 x).isSome]) (w4.drewN q'):=fun q'=>by
     have:=(a5.out.kept (zM w4 q' none) (by simp)).lookup qHN g5.out;rw[g4.out]at this;exact this
    clear hx d6 c9 H6 hu;obtain⟨m2,d0⟩:∃m,m=c2.length:=⟨_,rfl⟩;rw[<-d0]at b0 d2 d1 a0;have h5:=Kh d0;clear d0;by_cases hmem:x∈c2
    ·obtain⟨i,hi⟩:∃i,i=c2.idxOf x:=⟨_,rfl⟩
     have b6:i<c2.length:=(by rw[hi];exact List.idxOf_lt_length_of_mem hmem);have f6:c2.getD i default=⟨(q:Int),(a:Int),(b:Int)⟩:=by rw[zG b6,<-HX.out];subst hi;exact List.getElem_idxOf b6
     have j8:=Kh (DecOk.old f4 (by rw[<-H2.out];exact a7.out) (by rw[<-H1.out];exact f0.out) b6 f6);rw[numH_of_mem hmem,<-hi]at h4;have H7:∀q':Nat,Sem.run Try.prog (Instr.lookup 135 (.map (some mb)) (.agg #[.int .i64 (q:Int),.int .i64 (a:Int),.int .i64 (b:Int)]) true) (w4.drewN q')=.ok (.tuple #[.int .i64 (i:Int),.bool true]) (w4.drewN q'):=h4;have k5:i<4100:=(by have:=h5.out;omega);clear h4 b6 f6 hi;go_wp2
     go_quiet (fail)
     go_wp2;go_ret;exact⟨c2,_,yB (by go_num),h7.out.grow (zM _ _ _),iG j8.out c8⟩
    ·have j9:=Kh (DecOk.new f4 (by rw[<-H2.out];exact a7.out) (by rw[<-H1.out];exact f0.out) (by rw[<-HX.out];exact hmem) (by rw[<-H1.out,<-h8.out];omega) (by rw[<-H2.out,<-h6.out];omega))
     rw[qEU hmem]at h4;have H7:∀q':Nat,Sem.run Try.prog (Instr.lookup 135 (.map (some mb)) (.agg #[.int .i64 (q:Int),.int .i64 (a:Int),.int .i64 (b:Int)]) true) (w4.drewN q')=.ok (.tuple #[.int .i64 0,.bool false]) (w4.drewN q'):=h4;have H0:=Kh hmem;clear h4 hmem;go_upto_region 10 with fail
     go_quiet (fail)
     obtain⟨w5,c5⟩:∃w5,w5=w4.drewN nq:=⟨_,rfl⟩;have b8:w4.grownBy w5 none:=(by rw[c5];exact zM _ _ _);have b0:=xK b0 b8;have b1:=xK b1 b8;rw[<-c5];have H3:=Kh b8;clear b8 c5 H7 r0 r1 r2;go_upto_region 13 with fail
     have C5:Hid (w5.cell? ⟨o,1,none⟩=some (.map (some mb))/\w5.cell? ⟨R,0,none⟩=some (.int .i64 (q:Int))/\w5.cell? ⟨R,1,none⟩=some (.int .i64 (a:Int))/\w5.cell? ⟨R,2,none⟩=some (.int .i64 (b:Int))):=Kh (by
      obtain⟨r0,r1,r2⟩:=zN (zB i1.out H3.out (by simp));obtain⟨_,b1⟩:=iL (zB f2.out H3.out (by simp))
      exact⟨b1,r0,r1,r2⟩)
     clear b0 b1;refine bd_put C5.out (a5.out.kept H3.out (by simp)) (by have:=HU.out;have:=h5.out;unfold maxLen;omega) g5.out g4.out (by omega) ?_;intro z71 z72 z73 z74 z75 z76 w7 b9 b7;rw[qEU H0.out]at b9;have f9:(fun q=>if q=x then some m2 else numH c2 q)=numH (c2++[x]):=by rw[h5.out];exact numH_snoc H0.out
     rw[f9]at b9;have c7:=(h7.out.grow H3.out).put H0.out (zB f2.out H3.out (by simp)) b7 b9 (by have:=HU.out;omega);obtain⟨e0,eo,ez,ep⟩:=c7;have j6:=Kh eo;have j5:=Kh ep;have k2:=Kh (zB (zB i1.out H3.out (by simp)) b7 (fun e=>i7 (Oj e).symm));have e3:Hid (o<w7.heap.size):=Kh (Nat.lt_of_lt_of_le (zK (zB f2.out H3.out (by simp))) b7.size);rw[<-h5.out]at e0
     have C7:Hid (w7.cell? ⟨o,0,none⟩=some (.slice sa m2 cap)/\w7.cell? ⟨R,0,none⟩=some (.int .i64 (q:Int))/\w7.cell? ⟨R,1,none⟩=some (.int .i64 (a:Int))/\w7.cell? ⟨R,2,none⟩=some (.int .i64 (b:Int))):=Kh (by
      obtain⟨r0,r1,r2⟩:=zN k2.out
      exact⟨e0,r0,r1,r2⟩)
     clear b9 f9 eo ep b7 e0 C5;go_upto_region 14 with fail
     refine bd_app (P:=fun wZ=>BldS w0 B X o mb w (c2++[x]) wZ) C7.out (by have:=j6.out;rwa [<-h5.out]at this) ez (by omega) e3.out (fun wg hwg w2' s' c' h1 h2 h3=>by
      have:=j5.out wg hwg w2' s' c' (by rw[<-h5.out,show qIJ x=[.int .i64 (q:Int),.int .i64 (a:Int),.int .i64 (b:Int)] by rw[HX.out];rfl];exact h1) (by rw[<-h5.out];exact h2) (by rw[<-h5.out];exact h3);rw[<-h5.out]at this
      exact this) ?_
     intro z77 z78 z79 z80 z81 z82 z83 z84 z85 z86 wZ hZ;have k1:=Kh hZ;clear hZ ez;go_wp2;go_ret;refine⟨c2++[x],_,yB (by go_num),k1.out,?_⟩;have:=iG j9.out c8;rw[<-HX.out,<-h5.out]at this;exact this
theorem GrownBut.trans' {w w' w'':World}{F G:Nat->Prop}(h:GrownBut w w' F)(k:GrownBut w' w'' G)(hG:∀j,G j->F j\/w.heap.size<=j):GrownBut w w'' F :=
 ⟨k.os.trans h.os,k.tape.trans h.tape,k.output.trans h.output,Nat.le_trans h.size k.size,fun j hj hn=>(k.block j (Nat.lt_of_lt_of_le hj h.size) (fun hg=>(hG j hg).elim hn (fun e=>by omega))).trans (h.block j hj hn)⟩
def qJJ (w:World)(ps:List (List ByteArray))(l:List ClaV)(e:Ending)(w':World):Prop :=
 ∃v g,e=.returned v/\(∀w2,GrownBut w' w2 (fun j=>j<w.heap.size)->oC w2.heap.size w2 v g)/\g.pats=ps/\wH ps.length g.chos g.chos.length/\0<=g.root/\g.root<=1+(g.chos.length:Int)/\(∀c∈l,decG g.chos (fun i=>c.m.getD i false) g.root=c.b)/\g.chos.length+1<=l.length/\w.grownBy w' none
theorem elem_pat1:ElemN Try.prog 22 28 1 (.agg #[.slice none 0 0]) 24:=⟨by kernel_rfl,by kernel_rfl,by rfl,by decide⟩
theorem sclone_any (B:Nat)(w:World)(v:Value)(p:List ByteArray)(h:Row B w v (txtV p))(hl:p.length<=100000):Calls Try.prog 87 #[v] w fun e w'=>∃sa sc,e=.returned (.slice sa p.length sc)/\w'.ownsRow w.heap.size 9 1 (.slice sa p.length sc) p.length (txtV p)/\w.grownBy w' none:=by
 rcases h with ⟨a,c,rfl,hx⟩|⟨b,off,cap,rfl,_,hc1,hc2,hra⟩
 ·have hp:p=[]:=by simpa [txtV] using hx
  subst hp;rcases a with _|a
  ·exact(Try.slices_Clone_string_nil 0 c w).mono fun e w' ⟨h1,h2⟩=>⟨none,0,h1,by rw[h2];exact World.ownsRow_nil _ _ _ _,by rw[h2];exact zH _ _⟩
  ·exact(Try.slices_Clone_string_zero a c w).mono fun e w' ⟨v',h1,h2,_,h3⟩=>by
    obtain⟨sa,sc,rfl⟩:=qV h2;exact⟨sa,sc,h1,h2,lS h3⟩
 ·rw[yC]
  refine(Try.slices_Clone_string b off p.length cap p w (Nat.le_refl _) (by omega) (fun j hj=>?_)).mono ?_
  ·exact vG hra j hj
  ·rintro e w' ⟨v',rfl,h0,_,h4⟩
   rw[List.take_of_length_le (Nat.le_refl _)]at h0;obtain⟨sa,sc,rfl⟩:=qV h0;exact⟨sa,sc,rfl,h0,lS h4⟩
theorem clsok_of {M:Nat->List Bool}{A:Nat->Bool}{s np:Nat}{l:List ClaV}(h:ClsI M A s s l)(hM:∀i,(M i).length=np):ClsOk np l:=⟨fun c hc=>by obtain⟨i,_,e⟩:=h.met c hc;rw[<-e];exact hM i,h.nd⟩
theorem diagram_any (Bd:Nat)(w:World)(pv lv:Value)(ps:List (List ByteArray))(l:List ClaV)(hBd:Bd<=w.heap.size)(hp:vS Bd w pv ps)(hl:ClsX (fun k=>k<w.heap.size) w lv l)(h0:0<l.length)(h4:l.length<=4000)(hcl:ClsOk ps.length l)(h3:ps.length<=300)(h8:∀p∈ps,p.length<=100000):Calls Try.prog 61 #[pv,lv] w (qJJ w ps l):=by
 obtain⟨pa,pc,rfl⟩:=hp.shape;obtain⟨la,lc,rfl⟩:=hl.shape;obtain⟨np,e7⟩:∃n,n=ps.length:=⟨_,rfl⟩;have H6:=Kh e7;have HP:=Kh hp;rw[<-e7]at hcl h3 HP⊢;obtain⟨n,hn⟩:∃n,n=l.length:=⟨_,rfl⟩;have HN:=Kh hn;have HL:=Kh hl;have H0:=Kh h0;have H4:=Kh h4;have m7:=Kh hcl;have H8:=Kh h8;rw[<-hn]at HL⊢;have l0:=@run_makeMap Try.prog;clear hp hl e7 hn h0 h4 hcl h8;go_enter Try.func61,Try.ntmps61;go_upto_region 1 with fail;obtain⟨wA,e1⟩:∃wA,wA=w.alloc (.cells #[.slice none 0 0,.slice none 0 0,.int .i64 0] 25):=⟨_,rfl⟩;have a8:=Ga w (.cells #[.slice none 0 0,.slice none 0 0,.int .i64 0] 25) none;have b3:=heap_alloc_new w (.cells #[.slice none 0 0,.slice none 0 0,.int .i64 0] 25);have j9:wA.heap.size=w.heap.size+1:=by rw[e1,zL]
 obtain⟨P,hP⟩:∃P,P=w.heap.size:=⟨_,rfl⟩;rw[<-e1]at a8 b3⊢;rw[<-hP]at b3⊢;have m4:=Kh hP;obtain⟨mb,c7⟩:∃b,b=wA.heap.size:=⟨_,rfl⟩;obtain⟨w1,c5⟩:∃w1,w1=wA.alloc (.map #[] 0):=⟨_,rfl⟩;have h6:=MapK.made 45 qAT choW wA;have d1:=Ga wA (.map #[] 0) none;have g5:w1.heap.size=mb+1:=by rw[c5,zL,c7]
 rw[<-c5]at h6 d1;rw[<-c7]at h6;have d5:=heap_alloc_new w1 (.cells #[.slice none 0 0,.map (some mb)] 137);have H1:=Ga w1 (.cells #[.slice none 0 0,.map (some mb)] 137) none;obtain⟨w2,c4⟩:∃w2,w2=w1.alloc (.cells #[.slice none 0 0,.map (some mb)] 137):=⟨_,rfl⟩;have k4:w2.heap.size=mb+2:=by rw[c4,zL,g5]
 obtain⟨o,ho⟩:∃o,o=w1.heap.size:=⟨_,rfl⟩;rw[<-c4]at d5 H1;rw[<-ho]at d5;have m9:=Kh (zB (zB b3 d1 (by simp)) H1 (by simp));have a0:wA.grownBy w2 none:=zA d1 H1 (by simp);have f4:Hid (w.heap.size<=w2.heap.size):=Kh (by omega);have a2:w.grownBy w2 none:=zA a8 a0 (by simp);have e3:(45:Nat)≠137:=by decide
 have e2:(45:Nat)≠25:=by decide
 have a4:(28:Nat)≠25:=by decide
 have j7:Hid (BldS wA w2.heap.size (fun k=>k<w.heap.size) o mb w2 [] w2):=Kh ⟨none,0,0,0,⟨⟨fun r hr=>by simp at hr;subst hr;exact World.ownsRow_nil _ _ _ _,List.pairwise_singleton _ _,fun r hr k hk=>by simp at hr;subst hr;simp[Value.ownBlock]at hk,fun k hk=>Nat.lt_of_lt_of_le hk a2.size⟩,fun r hr=>by simp at hr;subst hr;exact⟨rfl,e3⟩,d5,fun e=>by have e:o<w.heap.size:=e;omega,by omega,by omega,Nat.le_refl _,a0,uN.refl _ _,Nat.le_refl _⟩,h6.kept H1 (by simp),fun e=>by have e:mb<w.heap.size:=e;omega,by omega,Nat.le_refl _⟩;have H7:Hid (Calls Try.prog 86 #[.pointer (some ⟨o,0,none⟩),.slice la n lc,.int .i64 0] w2 (qIN wA w2.heap.size (fun k=>k<w.heap.size) o mb np w2 [] l 0)):=Kh (bdecide_any wA w2.heap.size o mb np (by omega) l.length (fun k=>k<w.heap.size) w2 _ l [] 0 (Nat.le_refl _) H0.out (HL.out.grow a2) j7.out m7.out (fun c _ c' _ q hq=>by omega) (Nat.zero_le _) (fun i hi=>by simp at hi) List.nodup_nil (by have:=H4.out;simp;omega));have m1:=Kh c5;have m0:=Kh c4;have m6:=Kh c7;have m5:Hid (o=mb+1):=Kh (by omega);have j6:=Kh b3;have j5:=Kh a8;have n0:=a8.size;clear b3 a8 j9 hP c7 c5 h6 d1 g5 d5 H1 c4 k4 ho a2 a0 e1 j7;go_upto_region 2 with fail;rw[<-m6.out,<-m1.out,<-m5.out,<-m0.out];clear l0;go_wp2_with fail;refine H7.out.mono ?_;rintro e w3 ⟨cs,r,rfl,d4,f1⟩;have d8:=Kh f1;have d7:=Kh (zA j5.out d4.facts.1 (by simp));have b8:=Kh (zB j6.out d4.facts.1 (by simp));obtain⟨sa,cap,u,c,b2,h7,_,_⟩:=d4.cells;obtain⟨b0,b1⟩:=iL b2;have j3:=Kh h7;have n3:=f1.lo;obtain⟨q,rfl⟩:∃q:Nat,r=(q:Int):=⟨r.toNat,by omega⟩;obtain⟨m,hm⟩:∃m,m=cs.length:=⟨_,rfl⟩;rw[<-hm]at b0 j3;have HM:=Kh hm;have d3:=heap_alloc_new w3 (.cells #[.slice none 0 0,.slice sa m cap,.int .i64 (q:Int)] 25);have a9:=Ga w3 (.cells #[.slice none 0 0,.slice sa m cap,.int .i64 (q:Int)] 25) none;obtain⟨w4,c3⟩:∃w4,w4=w3.alloc (.cells #[.slice none 0 0,.slice sa m cap,.int .i64 (q:Int)] 25):=⟨_,rfl⟩;have k0:w4.heap.size=w3.heap.size+1:=by rw[c3,zL]
 obtain⟨od,e6⟩:∃o,o=w3.heap.size:=⟨_,rfl⟩;rw[<-c3]at d3 a9;rw[<-e6]at d3;have l9:=Kh c3;have j2:=Kh e6;have i9:Hid (BoxS w4.heap.size (fun _=>False) od 25 w3 w4 (⟨w4.heap.size,28,.slice none 0 0,0,[],1⟩::[]) #[.slice none 0 0,.slice sa m cap,.int .i64 (q:Int)] w4):=Kh ⟨⟨fun r hr=>by simp at hr;subst hr;exact World.ownsRow_nil _ _ _ _,List.pairwise_singleton _ _,fun r hr k hk=>by simp at hr;subst hr;simp[Value.ownBlock]at hk,fun k hk=>hk.elim⟩,fun r hr=>by simp at hr;subst hr;exact⟨rfl,a4⟩,d3,fun e=>e,by omega,by omega,Nat.le_refl _,a9,uN.refl _ _,Nat.le_refl _⟩;have b4:Hid (w3.heap.size<=w4.heap.size):=Kh a9.size;have l6:Hid (w.heap.size<=w2.heap.size/\w.heap.size<=w4.heap.size):=Kh ⟨f4.out,Nat.le_trans d7.out.size a9.size⟩;have j1:Hid (P<w3.heap.size):=Kh (zK b8.out);have n5:Hid (Bd<=w3.heap.size):=Kh (Nat.le_trans hBd d7.out.size);clear d4 f1 b2 h7 hm c3 e6 a9 k0 d3 H7 j6 j5 b1;go_upto_region 4 with fail;rw[<-j2.out,<-l9.out];clear b0;go_wp2
 go_loopg [24] np (fun gh v24 wr=>∃(k:Nat) (sp:Option Addr) (cp:Nat) (svs:List Value) (X:Nat->Prop),gh+k=np/\v24=.int .i64 k/\BoxS w4.heap.size X od 25 w3 wr (⟨w4.heap.size,28,.slice sp k cp,k,svs,1⟩::[]) #[.slice sp k cp,.slice sa m cap,.int .i64 (q:Int)] wr/\uP X 9 txtV wr svs (ps.take k)/\(∀j,X j->w4.heap.size<=j))
 case atStart=>exact⟨0,none,0,[],fun _=>False,rfl,rfl,i9.out,uP.nil,fun _ h=>h.elim⟩
 case round =>
  clear i9;obtain⟨k,sp,cp,svs,X,i2,rfl,f3,g8,g6⟩:=hrel;have f6:=Kh g6;have g2:=Kh i2;have H9:=Kh f3;have f9:=Kh g8;have a7:=f3.grown;clear i2 f3 g8 g6;by_cases hk:k<np
  ·have l1:(k:Int)<np:=by omega
   obtain⟨b,off,pcap,e,l3,f2,a3,h9⟩:=((HP.out.kept d7.out (by simp)).kept a7 (by simp)).at_ (by rw[<-H6.out];omega);rw[<-H6.out]at e f2 h9;simp only[Value.slice.injEq,true_and]at e;obtain⟨rfl,rfl⟩:=e;have n2:pc<=9223372036854775807:=by unfold maxLen at a3;omega
   obtain⟨ea,ec,c1,H2,c6⟩:=h9 k hk;obtain⟨p,hp⟩:∃p,p=ps.getD k []:=⟨_,rfl⟩;have k7:p.length<=100000:=H8.out p (by rw[hp,zG (by rw[<-H6.out];exact hk)];exact List.getElem_mem _);rw[<-hp]at c1 H2;have m3:=Kh hp;have f7:Hid (∀W:World,wr.grownBy W none->Calls Try.prog 87 #[.slice ea p.length ec] W fun e w'=>∃sa sc,e=.returned (.slice sa p.length sc)/\w'.ownsRow W.heap.size 9 1 (.slice sa p.length sc) p.length (txtV p)/\W.grownBy w' none):=Kh (fun W hW=>sclone_any Bd W _ p (H2.kept hW (by simp)) k7);obtain⟨pl,g9⟩:∃n,n=p.length:=⟨_,rfl⟩;rw[<-g9]at c1 f7;have d2:=heap_alloc_new wr (.cells #[.slice ea pl ec] 28);have e8:=Ga wr (.cells #[.slice ea pl ec] 28) none;obtain⟨wR,e0⟩:∃wR,wR=wr.alloc (.cells #[.slice ea pl ec] 28):=⟨_,rfl⟩;obtain⟨R,hR⟩:∃R,R=wr.heap.size:=⟨_,rfl⟩;rw[<-e0]at d2 e8;rw[<-hR]at d2;have l7:=Kh e0;have m2:=Kh hR;have g0:=Kh e8;have m8:=Kh d2;clear h9 H2 c6 hp g9 e0 hR e8 d2 f2 a3 a7;go_upto_region 7 with fail;rw[<-l7.out,<-m2.out];clear c1;obtain⟨w5,c2⟩:∃w5,w5=wR.drew:=⟨_,rfl⟩;have f0:wr.grownBy w5 none:=(by rw[c2];exact zD g0.out (zO wR none));have l8:=Kh c2;have d6:=Kh f0
   have C5:Hid (w5.cell? ⟨od,0,none⟩=some (.slice sp k cp)/\w5.cell? ⟨R,0,none⟩=some (.slice ea pl ec)):=Kh (by
    have h1:=zI (H9.out.grow f0).box 0 (by simp);simp only[List.getElem_toArray,List.getElem_cons_zero]at h1;refine⟨h1,?_⟩;have h2:=zI (zB m8.out (show wR.grownBy w5 none by rw[c2];exact zO wR none) (by simp)) 0 (by simp)
    simpa using h2)
   clear f0 c2;refine wp_region_noPanic ?_;refine yY (G:=uI 7 (fun _=>True) (fun W=>W.cell? ⟨od,0,none⟩=some (.slice sp k cp)/\W.cell? ⟨R,0,none⟩=some (.slice ea pl ec))) (by kernel_rfl) ?_;rw[<-l8.out];refine zV 0 ⟨trivial,fun _=>C5.out⟩ ?_;refine uA 1 ⟨trivial,fun _=>C5.out⟩ ?_;refine zV 2 ⟨trivial,fun _=>C5.out⟩ ?_;obtain⟨k1,k2⟩:=C5.out;refine oneG (i:=3) (by kernel_rfl) rfl (fun K hK=>?_);go_simp;refine hK.out _ _ ⟨trivial,fun _=>C5.out⟩ ?_;clear hK K k1 k2
   try simp only[Act.put,sPa,sPb,sPc]
   refine oneG (i:=4) (by kernel_rfl) rfl (fun K hK=>?_);go_simp
   go_at_call 87
   refine(f7.out w5 d6.out).mono ?_;rintro e w8 ⟨s8,c8,rfl,h5,d0⟩;have H3:=zD d6.out d0;have g3:Hid (BoxS w4.heap.size (fun j=>X j\/(Value.slice s8 pl c8).ownBlock=some j) od 25 w3 w8 (⟨w4.heap.size,28,.slice sp k cp,k,svs,1⟩::[]) #[.slice sp k cp,.slice sa m cap,.int .i64 (q:Int)] w8):=Kh (H9.out.fresh H3 (fun j hj=>⟨Nat.le_trans d6.out.size (h5.lt j hj).1,(h5.lt j hj).2⟩))
   have b6:Hid (uP (fun j=>X j\/(Value.slice s8 pl c8).ownBlock=some j) 9 txtV w8 (svs++[.slice s8 pl c8]) (ps.take (k+1))):=Kh (by
    rw[zT (d:=[]) (by rw[<-H6.out];exact hk),<-m3.out]
    exact((f9.out.kept (H9.out.mem.keep H3) H3.size).mono (fun j hj=>.inl hj)).snoc (RowX.of_owns h5 (fun j hj=>.inr hj)))
   have C8:Hid (w8.cell? ⟨od,0,none⟩=some (.slice sp k cp)/\w8.cell? ⟨R,0,none⟩=some (.slice ea pl ec)):=Kh ⟨xK C5.out.1 d0,xK C5.out.2 d0⟩
   have f5:Hid (∀j,(X j\/(Value.slice s8 pl c8).ownBlock=some j)->w4.heap.size<=j):=Kh (fun j hj=>by
    rcases hj with hj|hj
    ·exact f6.out j hj
    ·exact Nat.le_trans (Nat.le_trans H9.out.base d6.out.size) (h5.lt j hj).1)
   refine hK.out _ _ ⟨trivial,fun _=>C8.out⟩ ?_;clear hK K C5 h5 d0 H3 f7
   try simp only[Act.put,sPa,sPb,sPc]
   refine oneG (i:=5) (by kernel_rfl) rfl (fun K hK=>?_);go_simp;refine hK.out _ _ ⟨trivial,fun _=>C8.out⟩ ?_;clear hK K
   try simp only[Act.put,sPa,sPb,sPc]
   refine oneG (i:=6) (by kernel_rfl) rfl (fun K hK=>?_);go_simp;have c9:=heap_alloc_new w8 (.cells #[Value.slice s8 pl c8] 28);have a1:=Ga w8 (.cells #[Value.slice s8 pl c8] 28) none;obtain⟨R9,i6⟩:∃R9,R9=w8.heap.size:=⟨_,rfl⟩;obtain⟨w9,c0⟩:∃w9,w9=w8.alloc (.cells #[Value.slice s8 pl c8] 28):=⟨_,rfl⟩;rw[<-c0]at c9 a1⊢;rw[<-i6]at c9⊢;have b7:=Kh (g3.out.grow a1).rebase;have b5:=Kh (b6.out.kept (g3.out.mem.keep a1) a1.size);have C9:Hid (w9.cell? ⟨od,0,none⟩=some (.slice sp k cp)/\w9.cell? ⟨R,0,none⟩=some (.slice ea pl ec)):=Kh ⟨xK C8.out.1 a1,xK C8.out.2 a1⟩;refine hK.out _ _ ⟨trivial,fun _=>C9.out⟩ ?_;clear hK K C8 a1 c0 i6
   try simp only[Act.put,sPa,sPb,sPc]
   have a6:=b7.out.own (r:=⟨w4.heap.size,28,.slice sp k cp,k,svs,1⟩) (by simp);have g4:=Nat.le_trans b7.out.base b7.out.wk;refine oneG (i:=7) (by kernel_rfl) rfl (fun K hK=>?_);refine tY rfl (.tmp 29) (.tmp 34) 22 rfl elem_pat1 w4.heap.size (.slice sp k cp) k svs rfl a6 [.slice s8 pl c8] R9 rfl (0,0) rfl c9 ?z1 ?z2 ?z3 g4 ?_
   case z1=>intro v hv;simp only[List.mem_cons,List.not_mem_nil,or_false]at hv;subst hv;rfl
   case z2=>unfold maxLen;omega
   case z3=>show (k+1)*24<=140737488355328;omega
   intro sN cN wM h7 i3 i0;have b9:=Kh (b7.out.appAt (j:=0) rfl h7 i3 i0);have i5:=zI b9.out.box 0 (by simp);simp only[List.getElem_toArray,List.getElem_cons_zero]at i5;have l2:=zE b9.out.box 0;have k8:=zK b9.out.box;refine hK.out _ _ ⟨trivial,fun h=>by simp at h⟩ ?_;clear hK K C9 h7 i3 i0 c9 a6 g4
   try simp only[Act.put,sPa,sPb,sPc]
   refine oneG (i:=8) (by kernel_rfl) rfl (fun K hK=>?_);go_simp;refine hK.out _ _ ⟨trivial,fun h=>by simp at h⟩ ?_;clear hK K
   try simp only[Act.put,sPa,sPb,sPc]
   refine oneG (i:=9) (by kernel_rfl) rfl (fun K hK=>?_);go_simp;have H5:=Kh (b9.out.set 0 (.slice sN (k+1) cN));obtain⟨wZ,g7⟩:∃wZ,wZ=wM.setCell ⟨od,0,none⟩ (.slice sN (k+1) cN):=⟨_,rfl⟩;rw[<-g7]at H5⊢;have f8:=Kh (b5.out.kept H5.out.kept H5.out.wk);refine hK.out _ _ ⟨trivial,fun h=>by simp at h⟩ ?_;clear hK K g7
   try simp only[Act.put,sPa,sPb,sPc]
   refine rP (by kernel_rfl) ?_ _;refine NoPanic.normal ?_;clear i5 l2 k8 b9 b7 b5 b6 g3;go_wp2;go_roundg (np-(k+1))
   case measure=>have:=g2.out;omega
   case rel=>exact⟨k+1,sN,cN,_,_,by have:=g2.out;omega,by go_num,H5.out.rebase,f8.out,f5.out⟩
  ·have i1:k=np:=by have:=g2.out;omega
   have l1:¬(k:Int)<np:=(by omega);have i8:Hid (ps.take k=ps):=Kh (List.take_of_length_le (by rw[<-H6.out];omega));have j4:=Kh i1;have b2:=H9.out.box;obtain⟨x0,x1,x2⟩:=zN b2;have e4:=zB b8.out a7 (by simp);obtain⟨f40,f41,f42,n4,v0,v1,v2⟩:=tJ e4;have j0:=Kh e4;have n1:P≠od:=(by have:=j1.out;have:=j2.out;omega);clear i1 b2;go_wp2;obtain⟨w9,c0,g1,z1,q0,q1,q2⟩:=rU e4 (.slice sp k cp) (.slice sa m cap) (.int .i64 (q:Int));rw[<-c0];refine bodyPost_ret (v:=.agg #[.slice sp k cp,.slice sa m cap,.int .i64 (q:Int)]) (by simp[results,Try.results61,go_sem,q0,q1,q2,Result.andThen]) rfl ?_;have l5:uN X wr w9:=uN.of_grown H9.out.mem.lt g1 (fun j e hx=>by have e:P=j:=Oj e;have:=f6.out j hx;have:=j1.out;have:=b4.out;omega);have a5:=f9.out.kept l5 g1.size;rw[i8.out]at a5;have d9:∀j,X j->j<w9.heap.size:=fun j hj=>Nat.lt_of_lt_of_le (H9.out.mem.lt j hj) g1.size;have ho:=H9.out.own (r:=⟨w4.heap.size,28,.slice sp k cp,k,svs,1⟩) (by simp);have a6:=ho.kept g1 (.inr (zQ ho j0.out a4));have hc:=zP j3.out a7;have i4:=hc.kept g1 (.inr (zQ hc j0.out e2));have k5:svs.length=k:=by have:=f9.out.1;rw[i8.out,<-H6.out]at this;have:=j4.out;omega
   have j8:=l6.out;have k3:=b4.out;refine⟨_,⟨ps,cs,(q:Int)⟩,rfl,fun w2' H1=>?_,rfl,?_,by show (0:Int)<=q;omega,d8.out.hi,d8.out.dec,by have:=d8.out.few;simp at this;omega,?_⟩
   ·have l4:uN X w9 w2':=uN.but d9 H1 (fun j (e:j<w.heap.size) hx=>by have:=f6.out j hx;omega)
    have k6:=(a5.kept l4 H1.size).rowsT;have k9:=oR a6 H1 (fun j e (hj:j<w.heap.size)=>by have:w4.heap.size<=j:=(a6.lt j e).1;omega);have a3:=oR i4 H1 (fun j e (hj:j<w.heap.size)=>by have:w2.heap.size<=j:=(i4.lt j e).1;omega);refine⟨_,_,rfl,⟨svs,(RowT.of_owns k9).row,?_,?_⟩,?_⟩
    ·show svs.length=ps.length
     rw[k5,j4.out,H6.out]
    ·intro i h1 h2
     refine⟨(k6.2 i h1 h2).row,fun j hj=>?_⟩;have i7:i<ps.length:=h2;obtain⟨pb,po,pcap,e,l3,f2,a3,h9⟩:=HP.out.at_ (by omega);obtain⟨ea,ec,c1,H2,c6⟩:=h9 i i7;have e5:ps.getD i []=ps[i]:=zG i7;rw[e5]at c6;exact c6 j hj
    ·rw[HM.out]at a3
     have e9:=gD a3 (Nat.le_refl w2'.heap.size);rw[<-HM.out]at e9;exact e9
   ·show wH ps.length cs cs.length
    rw[<-H6.out];exact d8.out.ok
   ·exact zA (zA d7.out a7 (by simp)) g1 (fun j e=>by have e:P=j:=Oj e;have:=m4.out;omega)
end Go.Proofs.Ytjfdomfendbhfaa
