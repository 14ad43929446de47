/- Part 2 of the proof. -/
import Derived.Test.YtobakifdllameaaQc1
import Derived.Maps.OwnSet
import Derived.Maps.OwnOps
import Derived.Deep.DeepCutAuto
import Derived.Deep.CutBlock
import Derived.Deep.RegionHeld3
import Derived.BigQuiet
import Derived.Deep.DrawnRows
import Derived.OrdersHeld
set_option linter.unusedVariables false
set_option linter.unusedSimpArgs false
set_option maxRecDepth 100000
set_option maxHeartbeats 16000000
namespace Go.Proofs.Ytobakifdllameaa
open Go.RowKit
def sK (B:Nat)(w:World)(v:Value)(d:DfaV):Prop:=∃fv nv,v=.agg #[.int .i64 d.letters,.int .i64 d.start,fv,nv]/\Row B w fv (bls d.final)/\Mat B w nv d.next
theorem sK.kept {B:Nat}{w w':World}{v:Value}{d:DfaV}{row:Option Nat}(h:sK B w v d)(hg:w.grownBy w' row)(hr:∀k,row=some k->B<=k):sK B w' v d:=by
 obtain⟨fv,nv,h1,h2,h3⟩:=h;exact⟨fv,nv,h1,h2.kept hg hr,h3.kept hg hr⟩
theorem sK.mono {B B':Nat}{w:World}{v:Value}{d:DfaV}(h:sK B w v d)(hB:B<=B'):sK B' w v d:=by
 obtain⟨fv,nv,h1,h2,h3⟩:=h;exact⟨fv,nv,h1,h2.mono hB,h3.mono hB⟩
theorem kQ {d:DfaV}(h:d.letters<1\/6<d.letters):uJ d=1:=by rw[uJ,if_pos h]
theorem cH {d:DfaV}(h:¬(d.letters<1\/6<d.letters))(h2:512<d.final.length):uJ d=3:=by rw[uJ,if_neg h,if_pos h2]
theorem gQ {d:DfaV}(h:¬(d.letters<1\/6<d.letters))(h2:¬512<d.final.length)(h3:d.final.length=0\/d.next.length≠d.final.length\/d.start<0\/d.final.length<=d.start):uJ d=4:=by rw[uJ,if_neg h,if_neg h2,if_pos h3]
theorem qY {d:DfaV}(h:¬(d.letters<1\/6<d.letters))(h2:¬512<d.final.length)(h3:¬(d.final.length=0\/d.next.length≠d.final.length\/d.start<0\/d.final.length<=d.start)){q:Nat}(hq:q<d.next.length)(hb:rowD d.letters d.final.length (d.next.getD q [])=false):uJ d=4:=by
 rw[uJ,if_neg h,if_neg h2,if_neg h3,if_neg];intro ha;have:=List.all_eq_true.1 ha d.next[q] (List.getElem_mem hq);rw[zK hq,this]at hb;cases hb
theorem qBE {d:DfaV}(h:¬(d.letters<1\/6<d.letters))(h2:¬512<d.final.length)(h3:¬(d.final.length=0\/d.next.length≠d.final.length\/d.start<0\/d.final.length<=d.start))(ha:∀q,q<d.next.length->rowD d.letters d.final.length (d.next.getD q [])=true):uJ d=0:=by
 rw[uJ,if_neg h,if_neg h2,if_neg h3,if_pos];rw[List.all_eq_true];intro r hr;obtain⟨q,hq,rfl⟩:=List.getElem_of_mem hr;have:=ha q hq
 rwa [zK hq]at this
theorem qFT {k:Int}{n:Nat}{r:List Int}(h:(r.length:Int)≠k):rowD k n r=false:=by simp[rowD,h]
theorem fO {k:Int}{n:Nat}{r:List Int}{y:Nat}(hy:y<r.length)(h:r.getD y 0<0\/n<=r.getD y 0):rowD k n r=false:=by
 rw[<-Bool.not_eq_true];intro hr;have:=(nO.1 hr).2 y hy;omega
def qTS (d:DfaV)(k:Nat):Prop:=∀x,x<k->rowD d.letters d.final.length (d.next.getD x [])=true
open Go.Maps
theorem rY:Try.prog.underlying 100=some (.map 3 3):=by kernel_rfl
theorem tM:Try.prog.underlying 3=some (.int .i64):=by kernel_rfl
theorem fI (w:World):(zeroValue 3).run Try.prog w=.ok (.int .i64 0) w:=by kernel_rfl
def Mid (x:Int):Prop:=-4611686018427387904<x/\x<4611686018427387904
theorem bM {x:Int}(hx:Mid x):(Lit.int .i64 x).wf=true:=by
 have h1:IntKind.i64.min = -9223372036854775808:=rfl;have h2:IntKind.i64.max=9223372036854775807:=rfl;obtain⟨h3,h4⟩:=hx;simp[Lit.wf];omega
theorem qEG {x:Int}(hx:Mid x):keyOf Try.prog 3 (.int .i64 x)=some (.int .i64 x):=keyOf_int_mk (q:=.i64) (by kernel_rfl) (bM hx)
def qB (w:World)(b n:Nat)(l:List Int):Prop :=
 ∃D:DataW Unit,w.ownsMap Try.prog 3 (plainElem Try.prog 3) b n D/\size D=l.length /\
  ∀x:Int,Mid x->has D (.int .i64 x)=decide (x∈l)/\D.atKey (.int .i64 x) (.lit (.int .i64 0))=.lit (.int .i64 (if x∈l then ((l.idxOf x:Nat):Int) else 0))
theorem qB.made (w:World):qB (w.alloc (.map #[] 0)) w.heap.size 0 []:=by
 refine⟨.map [],World.ownsMap_made _ _ _ _,rfl,fun x _=>⟨by simp[has_eq],?_⟩⟩;rw[WideAt.atKey_none _ (by simp)];simp
theorem qB.kept {w w':World}{b n:Nat}{l:List Int}{row:Option Nat}(h:qB w b n l)(hg:w.grownBy w' row)(a9:row≠some b):qB w' b n l:=by
 obtain⟨D,h1,h2,h3⟩:=h;exact⟨D,h1.kept hg (fun e=>a9 e.symm),h2,h3⟩
theorem qB.mono {w:World}{b n n':Nat}{l:List Int}(h:qB w b n l)(hn:n<=n'):qB w b n' l:=by
 obtain⟨D,h1,h2,h3⟩:=h;exact⟨D,h1.mono hn,h2,h3⟩
theorem qB.lt {w:World}{b n:Nat}{l:List Int}(h:qB w b n l):b<w.heap.size:=by
 obtain⟨D,h1,_⟩:=h;exact h1.lt
theorem qB.lookup {w:World}{b n:Nat}{l:List Int}(h:qB w b n l){x:Int}(hx:Mid x):(Instr.lookup 100 (.map (some b)) (.int .i64 x) true).run Try.prog w=.ok (.tuple #[.int .i64 (if x∈l then ((l.idxOf x:Nat):Int) else 0),.bool (decide (x∈l))]) w:=by
 obtain⟨D,h1,h2,h3⟩:=h;obtain⟨v,ps,h0,hv⟩:=h1.look_ok qAM rY (fI w) (plainElem_int tM (by decide)) (qEG hx);obtain⟨c,rfl,hc,_⟩:=plainElem_int_inv tM hv;obtain⟨e1,e2⟩:=h3 x hx;have e3:=congrArg Prod.fst hc;simp only[e2]at e3;rw[h0,e1]
 have e4:(if x∈l then ((l.idxOf x:Nat):Int) else 0)=c:=by
  simp only[Lit.int.injEq,DataW.lit.injEq,true_and]at e3;exact e3
 rw[e4]
theorem qB.len {w:World}{b n:Nat}{l:List Int}(h:qB w b n l):(Builtin.len_ #[100] 3 #[.map (some b)]).run Try.prog w=.ok (.int .i64 (l.length:Nat)) w:=by
 obtain⟨D,h1,h2,h3⟩:=h;have h0:=h1.len rY 3;rw[h2]at h0;exact h0
theorem lS {w:World}{ops:Array Oper}{a9:List Oper}{o:Oper}{a:Act}{Q:Exit->Act->World->Prop}(hg:o.guard=none)(m x v:Operand)(a7:o.op=Op.mapUpdate 100 m x v)(b n:Nat)(l:List Int)(z:Int)(hm:a.eval m=.map (some b))(hx:a.eval x=.int .i64 z)(hv:a.eval v=.int .i64 (l.length:Nat))(h:qB w b n l)(hn:n<maxLen)(hz:Mid z)(a8:z ∉ l)(a6:l.length<4611686018427387904)(hK:∀w',qB w' b (n+1) (l++[z])->w.grownBy w' (some b)->wpList Try.prog ops Q a9 (a.put o.dst undef) w'):wpList Try.prog ops Q (o::a9) a w:=by
 obtain⟨D,h1,h2,h3⟩:=h;obtain⟨w',h0,h4,h7⟩:=h1.update qAM rY hn (qEG hz) (plainElem_int tM (bM (x:=((l.length:Nat):Int)) ⟨by omega,by omega⟩));have h6:WideAt.IsKeyLit (.int .i64 z):=by simp[WideAt.IsKeyLit]
 refine wpList_plain hg fun K' hK'=>?_;unfold Oper.wp;simp[execOp,a7,hm,hx,hv,h0,Result.andThen];refine hK' _ _ (hK w' ⟨_,h4,?_,fun y hy=>?_⟩ h7)
 ·rw[size_put (h1.tidy qAM),(h3 z hz).1,decide_eq_false a8,h2];simp
 by_cases e:y=z
 ·subst e
  refine⟨by rw[has_put_same h1.isMap h6];simp,?_⟩;rw[atKey_put_same h1.isMap h6,if_pos (by simp),List.idxOf_append,if_neg a8];simp
 have h5:(Lit.int .i64 y)≠Lit.int .i64 z:=by intro h;injection h with _ h;exact e h
 obtain⟨e1,e2⟩:=h3 y hy;refine⟨by rw[has_put_other h5,e1];simp[e],?_⟩;rw[atKey_put_other h5,e2];by_cases hyl:y∈l
 ·rw[if_pos hyl,if_pos (by simp[hyl]),List.idxOf_append,if_pos hyl]
 rw[if_neg hyl,if_neg (by simp[hyl,e])]
def wW (l:List Nat)(k:Nat):List Nat:=l.take k++List.replicate (l.length-k) 0
theorem uW (l:List Nat):wW l 0=List.replicate l.length 0:=by simp[wW]
theorem tS (l:List Nat):wW l l.length=l:=by simp[wW]
theorem yV {l:List Nat}{k:Nat}(h:k<=l.length):(wW l k).length=l.length:=by simp[wW];omega
theorem tR {l:List Nat}{k:Nat}(h:k<l.length):(wW l k).set k (l.getD k 0)=wW l (k+1):=by
 have hl:(l.take k).length=k:=by simp;omega
 unfold wW;rw[List.set_append_right _ _ (by omega),hl,Nat.sub_self,yD (d:=0) h,show l.length-k=(l.length-(k+1))+1 by omega,List.replicate_succ,List.set_cons_zero,List.append_assoc];rfl
def qFG (w:World)(p:List Nat)(e:Ending)(w':World):Prop :=
 ∃g,e=.returned (.slice (some ⟨g,0,none⟩) p.length p.length)/\w.heap.size<=g/\Arr w' g 3 (nats p)/\w.grownBy w' none
theorem qKF {l:List Int}{k:Nat}(hk:k<l.length):(numb l).getD k 0=if l[k]∈yO (l.take k) then (yO (l.take k)).idxOf l[k] else (yO (l.take k)).length:=by
 rw[zK (by rw[yW];exact hk),pW hk,<-qCE hk,List.take_succ_eq_append_getElem hk,sJ];by_cases h:l[k]∈yO (l.take k)
 ·rw[tE h,if_pos h]
 rw[vN h,if_neg h,List.idxOf_append,if_neg h];simp
theorem bI (B:Nat)(w:World)(v:Value)(l:List Int)(hB:B<=w.heap.size)(h:Row B w v (ints l))(a9:∀x∈l,Mid x)(a4:l.length<=4194304):Calls Try.prog 79 #[v] w (qFG w (numb l)):=by
 have c4:=@run_makeMap Try.prog;obtain⟨va,vc,rfl⟩:=h.shape;rw[zN]at h⊢;have H:=Kh h;have HM:=Kh a9;clear h a9;obtain⟨w1,h4⟩:=Nm (w.alloc (.map #[] 0));have b0:w.grownBy w1 none:=by rw[h4];exact Ga w _ none
 have c3:w1.heap.size=w.heap.size+1:=by rw[h4,zX]
 have b7:Hid (qB w1 w.heap.size 0 []):=Kh (by rw[h4];exact qB.made w);have b8:=Kh b0;have b5:=Kh h4;clear b0 h4;go_enter Try.func79,Try.ntmps79;go_upto_region 2 with fail;rw[<-b5.out];go_wp2_with (first|(at_make;refine qV rfl _ _ _ rfl yJ rfl .i64 .i64 _ _ l.length rfl rfl rfl rfl ?b1 ?b2 ?_)|fail)
 case b1=>omega
 case b2=>unfold maxLen;omega
 intro w2 h0 H6 H3;have a0:=Kh h0;have H9:=Kh H6;have c2:=H6.size;clear h0 H6;obtain⟨g,hg⟩:=Nm (w.heap.size+1);rw[<-hg]at a0⊢;have c8:w.heap.size<g:=by omega
 have c7:g<w2.heap.size:=by omega
 clear hg H3;go_wp2
 go_loopg [5,6,7,8,15] l.length (fun gh a5 a6 a7 a8 i wr=>∃k:Nat,gh+k=l.length/\i=.int .i64 k/\Arr wr g 3 (nats (wW (numb l) k))/\qB wr w.heap.size k (yO (l.take k))/\w.grownBy wr none)
 case atStart=>exact⟨0,rfl,rfl,by rw[uW,yW,yS];exact a0.out,by simpa [yO] using b7.out.kept H9.out (by simp),zH b8.out H9.out⟩
 clear a0 H9;obtain⟨k,hg,rfl,h0,h5,h9⟩:=hrel;obtain⟨HG,HA,h8,H8⟩:=K4 hg h0 h5 h9;have c0:=h9.size;have a2:(numb l).length=l.length:=yW l;clear hg h5;by_cases hk:k<l.length
 ·have c6:(k:Int)<l.length:=by omega
  obtain⟨ib,io,ic,e,_,_,_,a1⟩:=(H.out.kept h9 (by simp)).some_ (by rw[zN];omega);simp only[Value.slice.injEq]at e;obtain⟨rfl,-,-⟩:=e;have ck:=a1.int k hk;have H2:Mid (l.getD k 0):=(by rw[zK hk];exact HM.out _ (List.getElem_mem hk));have h2:=qKF hk;rw[<-zK (d:=0) hk]at h2;have h7:yO (l.take (k+1))=wO (yO (l.take k)) (l.getD k 0):=by rw[List.take_succ_eq_append_getElem hk,sJ,zK hk]
  obtain⟨x,hx⟩:=Nm (l.getD k 0);rw[<-hx]at ck H2 h2 h7;have h6:=uZ (l.take k);rw[List.length_take]at h6;have H4:=h8.out.lookup H2;have h1:=tR (l:=numb l) (k:=k) (by omega);have c9:=frozen_of_row wr g k;have cgk:=h0.nat k (by rw[yV (by omega)];omega);have d0:(nats (wW (numb l) k)).length=l.length:=by rw[zR,yV (by omega)];omega
  have fgk:=h0.frozen k;clear a1 hx h9 h0;by_cases hin:x∈yO (l.take k)
  ·rw[if_pos hin,decide_eq_true hin]at H4
   rw[if_pos hin]at h2;have H1:Hid (yO (l.take (k+1))=yO (l.take k)):=Kh (by rw[h7,tE hin]);obtain⟨c,hc⟩:=Nm ((yO (l.take k)).idxOf x);rw[<-hc]at H4 h2;rw[h2]at h1;have HS:=Kh h1;clear h2 h1 hc h7 hin;go_wp2;go_roundg (l.length-(k+1))
   case measure=>have:=HG.out;omega
   refine⟨k+1,by omega,by go_num,?_,?_,?_⟩
   ·rw[<-HS.out];exact HA.out.nat_set k (by rw[yV (by omega)];omega) c
   ·rw[H1.out]
    exact(h8.out.kept (zF wr ⟨g,k,none⟩ _) (by simp;omega)).mono (by omega)
   exact zC H8.out (zF wr ⟨g,k,none⟩ _) (fun q e=>by have:=Oj e;simp at this;omega)
  rw[if_neg hin,decide_eq_false hin]at H4;rw[if_neg hin]at h2;have H1:Hid (yO (l.take (k+1))=yO (l.take k)++[x]):=Kh (by rw[h7,vN hin]);have b3:=Kh hin;have b6:=Kh H2;rw[h2]at h1;have HS:=Kh h1;clear h2 h1 h7 hin cgk fgk;obtain⟨L,hL⟩:=Nm (yO (l.take k));rw[<-hL]at h8 H1 b3 HS h6;have c5:=h8.out.len;clear hL;go_wp2_with (first|(at_mapUpdate;refine lS rfl _ _ _ rfl w.heap.size k L x rfl rfl rfl h8.out (by unfold maxLen;omega) b6.out b3.out (by omega) ?_;intro w5 h3 H5;(have H0:=HA.out.kept H5 (by simp;omega));(have H7:=Kh h3);(have b4:=Kh H5);(have b9:=Kh H0);(have fg5:=H0.frozen k);(have cg5:=H0.nat k (by rw[yV (by omega)];omega));clear h3 H5 H0)|fail);go_roundg (l.length-(k+1))
  case measure=>have:=HG.out;omega
  have c1:=b4.out.size;refine⟨k+1,by omega,by go_num,?_,?_,?_⟩
  ·rw[<-HS.out];exact b9.out.nat_set k (by rw[yV (by omega)];omega) _
  ·rw[H1.out]
   exact H7.out.kept (zF w5 ⟨g,k,none⟩ _) (by simp;omega)
  exact zC (zC H8.out b4.out (fun q e=>by have:=Oj e;omega)) (zF w5 ⟨g,k,none⟩ _) (fun q e=>by have:=Oj e;simp at this;omega)
 have a3:k=l.length:=by have:=HG.out;omega
 have HE:Hid (wW (numb l) k=numb l):=Kh (by rw[a3,<-a2];exact tS _);clear a3 h0;go_wp2;go_ret;refine⟨g,by rw[a2];rfl,by omega,?_,H8.out⟩;rw[<-HE.out];exact HA.out
end Go.Proofs.Ytobakifdllameaa
namespace Go.Proofs.Ytobakifdllameaa
open Go.RowKit
def dG (p q:List Nat):List Nat:=List.zipWith (fun a b=>a*(p.length+1)+b) p q
theorem lI {p q:List Nat}(h:q.length=p.length):(dG p q).length=p.length:=by simp[dG,h]
theorem qIK {p q:List Nat}:nats (dG p q)=ints (lJ p q):=by
 rw[sX];congr 1;simp only[dG,lJ,List.map_zipWith];congr 1
theorem qLW {p q:List Nat}(h:q.length=p.length){k:Nat}(hk:k<p.length):(dG p q).getD k 0=p.getD k 0*(p.length+1)+q.getD k 0:=by
 rw[zK (by rw[lI h];exact hk),zK hk,zK (by omega)];simp[dG]
theorem qLX {p q:List Nat}(hp:∀c∈p,c<4194305)(hq:∀c∈q,c<4194305)(hl:p.length<=4194304):∀x∈lJ p q,Mid x:=by
 intro x hx;obtain⟨i,hi,rfl⟩:=List.getElem_of_mem hx;simp only[lJ,List.getElem_zipWith,qCB];have h1:=hp _ (List.getElem_mem (l:=p) (n:=i) (by simp[lJ]at hi;omega));have h2:=hq _ (List.getElem_mem (l:=q) (n:=i) (by simp[lJ]at hi;omega))
 generalize p[i]'(by simp[lJ]at hi;omega)=a at h1⊢
 generalize q[i]'(by simp[lJ]at hi;omega)=b at h2⊢
 have:a*(p.length+1)<=4194304*4194305:=Nat.mul_le_mul (by omega) (by omega);have e:(a:Int)*((p.length:Int)+1)+b=((a*(p.length+1)+b:Nat):Int):=by push_cast;rfl
 rw[e];constructor<;>omega
theorem qIR {a m X b:Nat}(hX:X=a*(m+1))(a9:X<=17592190238720)(hb:b<4194305):wrap64 (wrap64 ((a:Int)*((m:Int)+1))+(b:Int))=((X+b:Nat):Int):=by
 have h0:(a:Int)*((m:Int)+1)=(X:Int):=by rw[hX];push_cast;rfl
 clear hX;rw[h0];have h9:wrap64 (X:Int)=(X:Int):=IntWalk.wrap64_in _ (by omega);rw[h9,<-Int.natCast_add];exact IntWalk.wrap64_in _ (by omega)
theorem qPG (B C:Nat)(w:World)(va vb:Value)(p q:List Nat)(hB:B<=w.heap.size)(hC:C<=w.heap.size)(ha:Row B w va (nats p))(hb:Row C w vb (nats q))(hl:q.length=p.length)(h0:0<p.length)(hp:∀c∈p,c<4194305)(hq:∀c∈q,c<4194305)(a9:p.length<=4194304):Calls Try.prog 80 #[va,vb] w (qFG w (fH p q)):=by
 obtain⟨pb,po,pc,rfl,c0,H1,H0,H9⟩:=ha.some_ (by rw[zR];exact h0);obtain⟨qb,qo,qc,rfl,b8,h5,h9,H8⟩:=hb.some_ (by rw[zR];omega);rw[zR]at H1 h5⊢;rw[zR,hl];rw[hl]at h5;have b3:pc<=9223372036854775807:=by unfold maxLen at H0;omega
 have b0:qc<=9223372036854775807:=by unfold maxLen at h9;omega
 obtain⟨RA,RB,HL,HP,HQ⟩:=K5 H9 H8 hl hp hq;have H4:=Kh (qLX hp hq a9);clear H9 H8 hl hp hq ha hb;go_enter Try.func80,Try.ntmps80;go_wp2_with (first|(at_make;refine qV rfl _ _ _ rfl yJ rfl .i64 .i64 _ _ p.length rfl rfl rfl rfl ?b1 ?b2 ?_)|fail)
 case b1=>omega
 case b2=>unfold maxLen;omega
 intro w2 h2 a2 H2;have H7:=Kh h2;have a7:=Kh a2;clear h2 a2;obtain⟨g,hg⟩:=Nm w.heap.size;have H6:=Kh hg;rw[<-hg]at H7 H2 hB hC⊢;clear hg;go_wp2
 go_loopg [6,12] p.length (fun gh a6 i wr=>∃k:Nat,gh+k=p.length/\i=.int .i64 k/\Arr wr g 3 (nats (wW (dG p q) k))/\w.grownBy wr none)
 case atStart=>exact⟨0,rfl,rfl,by rw[uW,lI HL.out,yS];exact H7.out,a7.out⟩
 clear H7 a7;obtain⟨k,hg,rfl,h2,h4⟩:=hrel;obtain⟨HG,HA,H5⟩:=K3 hg h2 h4;have H3:(dG p q).length=p.length:=lI HL.out;clear hg;by_cases hk:k<p.length
 ·have c1:(k:Int)<p.length:=by omega
  have ca:=(RA.out.kept h4 (by simp)).nat k hk;have cb:=(RB.out.kept h4 (by simp)).nat k (by rw[HL.out];exact hk);have h3:=tR (l:=dG p q) (k:=k) (by omega);rw[qLW HL.out hk]at h3;have a8:=sZ (i:=k) HP.out (by omega);have a0:=sZ (i:=k) HQ.out (by omega);have cgk:=h2.nat k (by rw[yV (by omega)];omega);have fgk:=h2.frozen k;obtain⟨a,ha⟩:=Nm (p.getD k 0);obtain⟨b,hb⟩:=Nm (q.getD k 0);rw[<-ha]at ca h3 a8;rw[<-hb]at cb h3 a0;obtain⟨X,hX⟩:=Nm (a*(p.length+1))
  have b4:X<=17592190238720:=by
   have h8:a*(p.length+1)<=4194304*4194305:=Nat.mul_le_mul (by omega) (by omega);omega
  rw[<-hX]at h3;have hw:=qIR hX b4 a0;have HW:=Kh hw;have HS:=Kh h3;have ca':wr.drew.cell? ⟨pb,po+k,none⟩=some (.int .i64 (a:Int)):=ca;have cb':wr.drew.cell? ⟨qb,qo+k,none⟩=some (.int .i64 (b:Int)):=cb;have b9:pb≠g:=(by omega);have b7:qb≠g:=by omega
  have a5:Hid (∀u,((wr.setCell ⟨g,k,none⟩ u).drew.cell? ⟨pb,po+k,none⟩=some (.int .i64 (a:Int)))):=Kh (fun u=>by
   show (wr.setCell ⟨g,k,none⟩ u).cell? ⟨pb,po+k,none⟩=_
   rw[World.cell?_of_block ((zF wr ⟨g,k,none⟩ u).block pb (by have:=h4.size;have:=H6.out;omega) (by simp;omega))];exact ca)
  have a4:Hid (∀u,((wr.setCell ⟨g,k,none⟩ u).drew.cell? ⟨qb,qo+k,none⟩=some (.int .i64 (b:Int)))):=Kh (fun u=>by
   show (wr.setCell ⟨g,k,none⟩ u).cell? ⟨qb,qo+k,none⟩=_
   rw[World.cell?_of_block ((zF wr ⟨g,k,none⟩ u).block qb (by have:=h4.size;have:=H6.out;omega) (by simp;omega))];exact cb)
  clear ha hb h3 h4 h2 hX hw;go_upto_region 5 with fail
  go_region_held3 (fun w'=>w'.cell? ⟨pb,po+k,none⟩=some (.int .i64 (a:Int))/\w'.cell? ⟨qb,qo+k,none⟩=some (.int .i64 (b:Int))) (first|exact⟨ca',cb'⟩|exact⟨a5.out _,a4.out _⟩|go_keep|fail) (fail)
  all_goals
   clear ca ca' cb cb' a5 a4 cgk fgk;go_wp2;go_roundg (p.length-(k+1))
   case measure=>have:=HG.out;omega
   refine⟨k+1,by omega,by go_num,?_,?_⟩
   ·rw[<-HS.out]
    have h1:=HA.out.nat_set k (by rw[yV (by omega)];omega) (X+b);rw[HW.out];exact h1.of_heap rfl
   exact wV (zC H5.out (zF wr ⟨g,k,none⟩ _) (fun q e=>by have h7:g=q:=Oj e;have:=H6.out;omega)) rfl rfl rfl rfl
 have a1:k=p.length:=by have:=HG.out;omega
 have HE:Hid (wW (dG p q) k=dG p q):=Kh (by rw[a1,<-H3];exact tS _);clear a1 h2;go_wp2_with fail;rw[HE.out]at HA
 have HN:=Kh (bI (g+1) wr (.slice (some ⟨g,0,none⟩) p.length p.length) (lJ p q) HA.out.lt (by
  rw[<-qIK]
  exact .inr ⟨g,0,p.length,by rw[zR,H3],by omega,by rw[zR,H3];exact Nat.le_refl _,by unfold maxLen;omega,HA.out.row⟩) H4.out (by rw[qP HL.out];exact a9))
 go_wp2_with fail;refine HN.out.mono ?_;rintro e w5 ⟨g5,rfl,c2,a3,h6⟩;have c3:numb (lJ p q)=fH p q:=rfl;have b6:=Kh a3;have b5:=Kh h6;clear a3 h6;go_wp2;go_ret;refine⟨g5,rfl,?_,b6.out,zH H5.out b5.out⟩;have:=H5.out.size;omega
theorem kT {xs:List Int}{k:Nat}(h:k<xs.length):xs.take (k+1)=xs.take k++[xs.getD k 0]:=by
 rw[List.take_add_one];simp[List.getD,h]
theorem lV (B C:Nat)(w:World)(va vb:Value)(xs ys:List Int)(ha:Row B w va (ints xs))(hb:Row C w vb (ints ys)):Calls Try.prog 40 #[va,vb] w fun e w'=>e=.returned (.bool (decide (xs=ys)))/\∃m,w'=w.drewN m:=by
 have h2:=ha.len_le;rw[zN]at h2;unfold maxLen at h2;have h1:=hb.len_le;rw[zN]at h1;unfold maxLen at h1;obtain⟨aa,ac,rfl⟩:=ha.shape;obtain⟨ba,bc,rfl⟩:=hb.shape;rw[zN]at ha hb⊢;rw[zN];by_cases hl:xs.length=ys.length
 ·by_cases h0:xs.length=0
  ·have hx:xs=[]:=List.eq_nil_of_length_eq_zero h0
   have hy:ys=[]:=List.eq_nil_of_length_eq_zero (by omega);subst hx;subst hy;clear ha hb;go_enter Try.func40,Try.ntmps40;go_wp2
   go_loopg [13] 0 (fun g i wr=>i=.int .i64 0/\wr=w)
   case atStart=>exact⟨rfl,rfl⟩
   obtain⟨rfl,rfl⟩:=hrel;go_wp2;go_ret;exact⟨yY rfl,0,rfl⟩
  obtain⟨ab,ao,ac',e,_,_,_,h4⟩:=ha.some_ (by rw[zN];omega);simp only[Value.slice.injEq]at e;obtain⟨rfl,-,-⟩:=e;obtain⟨bb,bo,bc',e,_,_,_,h3⟩:=hb.some_ (by rw[zN];omega);simp only[Value.slice.injEq]at e;obtain⟨rfl,-,-⟩:=e;obtain⟨RA,RB,HL⟩:=K3 h4 h3 hl;clear ha hb h4 h3;rw[<-hl];clear hl;go_enter Try.func40,Try.ntmps40;go_wp2
  go_loopg [13] xs.length (fun g i wr=>∃k:Nat,g+k=xs.length/\i=.int .i64 k/\xs.take k=ys.take k/\∃m,wr=w.drewN m)
  case atStart=>exact⟨0,rfl,rfl,rfl,0,rfl⟩
  obtain⟨k,hg,rfl,h5,m,rfl⟩:=hrel;have HG:=Kh hg;have OK:=Kh h5;clear hg h5;by_cases hk:k<xs.length
  ·have h7:(k:Int)<xs.length:=by omega
   have ca:=RA.out.int k hk;have cb:=RB.out.int k (by have:=HL.out;omega);obtain⟨z,hz⟩:=Nm (xs.getD k 0);obtain⟨u,hu⟩:=Nm (ys.getD k 0);rw[<-hz]at ca;rw[<-hu]at cb;have HZ:=Kh hz;have HU:=Kh hu;clear hz hu;by_cases hzu:z=u
   ·have HN:Hid (xs.take (k+1)=ys.take (k+1)):=Kh (by rw[kT hk,kT (by have:=HL.out;omega),OK.out,<-HZ.out,<-HU.out,hzu])
    subst hzu;go_wp2
    go_quiet (fail)
    go_wp2;go_roundg (xs.length-(k+1))
    case measure=>have:=HG.out;omega
    exact⟨k+1,by omega,by go_num,HN.out,_,rfl⟩
   have e1:(z != u)=true:=by rw[bne_iff_ne];exact hzu
   have HN:Hid (decide (xs=ys)=false):=Kh (by rw[decide_eq_false_iff_not];rintro rfl;exact hzu (by rw[HZ.out,HU.out]));go_wp2
   go_quiet (fail)
   go_wp2;go_ret;exact⟨yY HN.out.symm,_,by rw[World.drewN_drewN]⟩
  have HY:Hid (decide (xs=ys)=true):=by
   have h6:k=xs.length:=by have:=HG.out;omega
   have:=OK.out;rw[List.take_of_length_le (by omega),List.take_of_length_le (by have:=HL.out;omega)]at this;exact Kh (by rw[decide_eq_true_eq];exact this)
  go_wp2;go_ret;exact⟨yY HY.out.symm,m,rfl⟩
 have e1:((xs.length:Int) != (ys.length:Int))=true:=by rw[bne_iff_ne];omega
 have HN:Hid (decide (xs=ys)=false):=Kh (by rw[decide_eq_false_iff_not];rintro rfl;exact hl rfl);clear ha hb;go_enter Try.func40,Try.ntmps40;go_wp2;go_ret;exact⟨yY HN.out.symm,0,rfl⟩
theorem qPE {l m:List Nat}:((l.map fun(x:Nat)=>(x:Int)) == (m.map fun(x:Nat)=>(x:Int)))=decide (l=m):=by
 rw[Bool.eq_iff_iff,beq_iff_eq,decide_eq_true_eq];constructor
 ·intro h
  have:=congrArg (List.map Int.toNat) h;simpa [List.map_map,Function.comp_def] using this
 rintro rfl;rfl
theorem qGI {l m:List Nat}:decide ((l.map fun(x:Nat)=>(x:Int))=m.map fun(x:Nat)=>(x:Int))=decide (l=m):=by
 rw[<-qPE (l:=l) (m:=m),Bool.eq_iff_iff,decide_eq_true_eq,beq_iff_eq]
structure DAt (B:Nat)(w:World)(d:DfaV)(n k fb fo fc b off cap:Nat)(RB RO RC:Nat->Nat):Prop where
 ok:VD d n k
 flt:fb<B
 frow:uF w fb fo (bls d.final)
 fcap:n<=fc/\fc<=maxLen
 blt:b<B
 bltw:b<w.heap.size
 cap:n<=cap/\cap<=maxLen
 hd:∀q,q<n->w.cell? ⟨b,off+q,none⟩=some (.slice (some ⟨RB q,RO q,none⟩) k (RC q))
 el:∀q a,q<n->a<k->w.cell? ⟨RB q,RO q+a,none⟩=some (.int .i64 ((nx d q a:Nat):Int))
 rlt:∀q,q<n->RB q<B/\RB q<w.heap.size
 rcap:∀q,q<n->k<=RC q/\RC q<=maxLen
theorem DAt.kept {B:Nat}{w w':World}{d:DfaV}{n k fb fo fc b off cap:Nat}{RB RO RC:Nat->Nat}{row:Option Nat}(h:DAt B w d n k fb fo fc b off cap RB RO RC)(hg:w.grownBy w' row)(hr:∀k,row=some k->B<=k):DAt B w' d n k fb fo fc b off cap RB RO RC where
 ok:=h.ok
 flt:=h.flt
 frow:=h.frow.kept hg (fun e=>by have:=hr _ e;have:=h.flt;omega)
 fcap:=h.fcap
 blt:=h.blt
 bltw:=Nat.lt_of_lt_of_le h.bltw hg.size
 cap:=h.cap
 hd:=fun q hq=>(World.cell?_of_block (hg.block b h.bltw (fun e=>by have:=hr b e.symm;have:=h.blt;omega))).trans (h.hd q hq)
 el:=fun q a hq ha=>(World.cell?_of_block (hg.block (RB q) (h.rlt q hq).2 (fun e=>by have:=hr _ e.symm;have:=(h.rlt q hq).1;omega))).trans (h.el q a hq ha)
 rlt:=fun q hq=>⟨(h.rlt q hq).1,Nat.lt_of_lt_of_le (h.rlt q hq).2 hg.size⟩
 rcap:=h.rcap
theorem DAt.fin {B:Nat}{w:World}{d:DfaV}{n k fb fo fc b off cap:Nat}{RB RO RC:Nat->Nat}(h:DAt B w d n k fb fo fc b off cap RB RO RC){q:Nat}(hq:q<n):w.cell? ⟨fb,fo+q,none⟩=some (.bool (d.final.getD q false)):=by
 have hl:=h.ok.hn;have:=uF.map h.frow q (by omega);rw[this,zK (by omega)]
def dAgg (k st fb fo fc b off cap n:Nat):Value:=.agg #[.int .i64 (k:Int),.int .i64 (st:Int),.slice (some ⟨fb,fo,none⟩) n fc,.slice (some ⟨b,off,none⟩) n cap]
theorem sK.at {B:Nat}{w:World}{v:Value}{d:DfaV}{n k:Nat}(h:sK B w v d)(hd:VD d n k):∃fb fo fc b off cap RB RO RC,v=dAgg k (st0 d) fb fo fc b off cap n/\DAt B w d n k fb fo fc b off cap RB RO RC:=by
 obtain⟨fv,nv,rfl,hf,hn⟩:=h;obtain⟨fb,fo,fc,rfl,h1,h2,h3,h4⟩:=hf.some_ (by rw[yB,hd.hn];exact hd.n1);obtain⟨b,off,cap,A,C,rfl,k1,k2,k3⟩:=hn.some_ (by rw[hd.nl];exact hd.n1)
 have hr:∀q,∃rb ro,q<n->A q=some ⟨rb,ro,none⟩/\rb<B/\k<=C q/\C q<=maxLen/\uF w rb ro (ints (d.next.getD q [])):=by
  intro q;by_cases hq:q<n
  ·have hl:=hd.row q hq
   obtain⟨rb,ro,c,e,h4,h5,h6,h7⟩:=(k3.row q (by rw[hd.nl];exact hq)).some_ (by rw[zN,hl];exact hd.k1);simp only[Value.slice.injEq]at e;rw[zN,hl]at h5;exact⟨rb,ro,fun _=>⟨e.1,h4,by rw[e.2.2];exact h5,by rw[e.2.2];exact h6,h7⟩⟩
  exact⟨0,0,fun h=>absurd h hq⟩
 obtain⟨RB,h8⟩:=Classical.axiomOfChoice hr;obtain⟨RO,h0⟩:=Classical.axiomOfChoice h8;rw[yB,hd.hn]at h2;rw[hd.nl]at k1;refine⟨fb,fo,fc,b,off,cap,RB,RO,C,?_,hd,h1,h4,⟨h2,h3⟩,k3.lt,k3.ltw,⟨k1,k2⟩,fun q hq=>?_,fun q a hq ha=>?_,fun q hq=>?_,fun q hq=>?_⟩
 ·rw[dAgg,aL hd,hd.hk,yB,hd.hn,hd.nl]
 ·rw[k3.hd q (by rw[hd.nl];exact hq),(h0 q hq).1,hd.row q hq]
 ·rw[(h0 q hq).2.2.2.2.int a (by rw[hd.row q hq];exact ha),qKE hd hq ha]
  rfl
 ·have:=h0 q hq
  exact⟨this.2.1,this.2.2.2.2.1⟩
 have:=h0 q hq;exact⟨this.2.2.1,this.2.2.2.1⟩
theorem zM {w:World}{p:Nat}{x0 x1 x2 x3:Value}{e:Nat}(h:w.heap[p]?=some (.cells #[x0,x1,x2,x3] e (0,0))):w.cell? ⟨p,0,none⟩=some x0/\w.cell? ⟨p,1,none⟩=some x1/\w.cell? ⟨p,2,none⟩=some x2/\w.cell? ⟨p,3,none⟩=some x3:=by
 have c0:=zG h 0;have c1:=zG h 1;have c2:=zG h 2;have c3:=zG h 3;simp only[List.getElem_toArray,List.getElem_cons_zero,List.getElem_cons_succ]at c0 c1 c2 c3;exact⟨c0,c1,c2,c3⟩
theorem jS {w:World}{g n:Nat}{l:List Nat}(h:uF w g 0 (nats l))(hl:l.length=n)(hn:n<=9223372036854775807):Row (g+1) w (.slice (some ⟨g,0,none⟩) n n) (nats l) :=
 .inr ⟨g,0,n,by rw[zR,hl],by omega,by rw[zR,hl];exact Nat.le_refl _,by unfold maxLen;omega,h⟩
theorem qID {d:DfaV}{p:List Nat}{a q:Nat}(hq:q<p.length):(rR d p a).take (q+1)=(rR d p a).take q++[p.getD (nx d q a) 0]:=by
 rw[yD (d:=0) (by rw[xT];exact hq),nH hq]
theorem qOY {d:DfaV}{p:List Nat}{n a:Nat}(h:∀c∈p,c<n)(hn:0<n):∀c∈rR d p a,c<n:=by
 intro c hc;obtain⟨q,hq,rfl⟩:=List.mem_map.1 hc;exact sZ h hn
def finN (d:DfaV):List Nat:=d.final.map fun b=>if b then 1 else 0
theorem qLL (d:DfaV):nats (finN d)=ints (d.final.map finB):=by
 rw[sX];congr 1;simp only[finN,List.map_map];congr 1;funext b;cases b<;>rfl
theorem eX (d:DfaV):(finN d).length=d.final.length:=by simp[finN]
theorem qOR {d:DfaV}{q:Nat}(hq:q<d.final.length):(finN d).getD q 0=if d.final.getD q false then 1 else 0:=by
 rw[finN,xR (x:=false) hq]
theorem qOS (d:DfaV):∀x∈d.final.map finB,Mid x:=by
 intro x hx;obtain⟨b,_,rfl⟩:=List.mem_map.1 hx;cases b<;>constructor<;>simp[finB]
theorem qEP {l:List Nat}{k:Nat}(h:k<l.length)(h0:l.getD k 0=0):wW l (k+1)=wW l k:=by
 unfold wW;rw[yD (d:=0) h,h0,show l.length-k=(l.length-(k+1))+1 by omega,List.replicate_succ,List.append_assoc];rfl
def qME (w:World)(l:List Nat)(e:Ending)(w':World):Prop :=
 ∃g,e=.returned (.slice (some ⟨g,0,none⟩) l.length l.length)/\w.heap.size<=g/\uF w' g 0 (nats l)/\w.grownBy w' none
theorem qND {d:DfaV}{p:List Nat}(hp:Norm p)(m:Nat):∀c∈tK d p m,c<p.length:=by
 have:=oD (lW (d:=d) hp m)
 rwa [xO]at this
theorem qEU (B:Nat)(w:World)(v:Value)(d:DfaV)(n k:Nat)(hB:B<=w.heap.size)(h:sK B w v d)(hd:VD d n k):Calls Try.prog 59 #[v] w (qME w (yF d k)):=by
 obtain⟨fb,fo,fc,b,off,cap,RB,RO,RC,rfl,a0⟩:=h.at hd;have hn:=hd.hn;have k0:=hd.n1;have d8:=hd.nbig;have k4:=hd.k6;have k5:=hd.k1;have k8:=a0.fcap.1;have a5:=a0.fcap.2;have k9:=a0.cap.1;have a7:=a0.cap.2;have g4:fc<=9223372036854775807:=by unfold maxLen at a5;omega
 have g2:cap<=9223372036854775807:=by unfold maxLen at a7;omega
 obtain⟨wA,a8⟩:=Nm (w.alloc (.cells #[.int .i64 (k:Int),.int .i64 (st0 d:Int),.slice (some ⟨fb,fo,none⟩) n fc,.slice (some ⟨b,off,none⟩) n cap] 37));have h9:wA.heap[w.heap.size]?=some (.cells #[.int .i64 (k:Int),.int .i64 (st0 d:Int),.slice (some ⟨fb,fo,none⟩) n fc,.slice (some ⟨b,off,none⟩) n cap] 37 (0,0)):=by rw[a8];exact heap_alloc_new w _
 have b9:w.grownBy wA none:=by rw[a8];exact Ga w _ none
 have f8:wA.heap.size=w.heap.size+1:=by rw[a8,zX]
 obtain⟨c0,c1,c2,c3⟩:=zM h9;obtain⟨P,hP⟩:=Nm w.heap.size;have f2:=Kh hP;rw[<-hP]at h9 c0 c1 c2 c3 f8 hB;obtain⟨c9,j1,i5⟩:=K3 h9 b9 a8;have f7:=Kh (a0.kept b9 (by simp));have HN:=Kh hn;have HD:=Kh hd;unfold dAgg;clear h9 b9 a8 a0 hn hd h a5 a7;go_enter Try.func59,Try.ntmps59;go_upto_region 1 with fail;rw[<-i5.out,<-f2.out];clear hP;go_wp2_with (first|(at_make;refine qV rfl _ _ _ rfl yJ rfl .i64 .i64 _ _ n rfl rfl rfl rfl ?b1 ?b2 ?_)|fail)
 case b1=>omega
 case b2=>unfold maxLen;omega
 intro w2 h0 e4 g8;have d4:=Kh h0;have f5:=Kh e4;clear h0 e4;obtain⟨g,hg⟩:=Nm (P+1);have l2:=Kh hg;rw[<-hg]at d4⊢;have e2:P<g:=by omega
 clear hg;go_wp2
 go_loopg [4,15] n (fun gh a6 i wr=>∃q:Nat,gh+q=n/\i=.int .i64 q/\Arr wr g 3 (nats (wW (finN d) q))/\wA.grownBy wr none)
 case atStart=>exact⟨0,rfl,rfl,by rw[uW,eX,HN.out,yS];exact d4.out,f5.out⟩
 clear d4 f5;obtain⟨q,hg,rfl,h0,h3⟩:=hrel;obtain⟨HG,HA,H1⟩:=K3 hg h0 h3;have e6:(finN d).length=n:=by rw[eX,HN.out]
 have j6:=h3.size;obtain⟨d0,d1,d2,d3⟩:=zM (zB c9.out h3);clear hg c0 c1 c2 c3;by_cases hq:q<n
 ·have g0:(q:Int)<n:=by omega
  have cf:=(f7.out.kept h3 (by simp)).fin hq;have cgk:=h0.nat q (by rw[yV (by omega)];omega);have fgk:=h0.frozen q;have e5:=qOR (d:=d) (q:=q) (by rw[HN.out];exact hq);have b8:=Kh e5;clear e5 h0 h3;cases hb:d.final.getD q false with
  | false =>
   rw[hb]at cf b8;go_wp2;go_roundg (n-(q+1))
   case measure=>have:=HG.out;omega
   exact⟨q+1,by omega,by go_num,by rw[qEP (by omega) b8.out];exact HA.out,H1.out⟩
  | true =>
   rw[hb]at cf b8;have HS:Hid ((wW (finN d) q).set q 1=wW (finN d) (q+1)):=Kh (by have:=tR (l:=finN d) (k:=q) (by omega);rw[b8.out]at this;exact this);go_wp2;go_roundg (n-(q+1))
   case measure=>have:=HG.out;omega
   refine⟨q+1,by omega,by go_num,?_,zC H1.out (zF wr ⟨g,q,none⟩ _) (fun q e=>by have h7:g=q:=Oj e;omega)⟩;rw[<-HS.out];exact HA.out.nat_set q (by rw[yV (by omega)];omega) 1
 have H5:q=n:=by have:=HG.out;omega
 have HE:Hid (wW (finN d) q=finN d):=Kh (by rw[H5,<-e6];exact tS _);rw[HE.out]at HA;have j9:Hid (q=n):=Kh H5
 have a9:=Kh (bI (g+1) wr (.slice (some ⟨g,0,none⟩) n n) (d.final.map finB) HA.out.lt (by
  rw[<-qLL]
  exact jS HA.out.row e6 (by omega)) (qOS d) (by rw[List.length_map,HN.out];omega))
 clear H5 h0 h3 d0 d1 d2 d3;go_wp2_with fail;refine a9.out.mono ?_;rintro e w3 ⟨g3,rfl,i4,c6,a3⟩;have d6:numb (d.final.map finB)=nT d:=rfl;rw[d6]at c6⊢;have H2:(nT d).length=n:=by rw[pV,HN.out]
 rw[H2];have f0:=Kh c6.row;have f4:=Kh (zH H1.out a3);have a4:P<g3:=(by omega);clear c6 a3 a9 d6 H2 i4;go_wp2
 go_loopg [3] n (fun gh v3 wr=>∃(m g:Nat),gh+m=n/\m<cls (xK d k m)/\v3=.slice (some ⟨g,0,none⟩) n n/\P<g/\uF wr g 0 (nats (xK d k m))/\wA.grownBy wr none)
 case atStart=>exact⟨0,g3,rfl,jK (by rw[xJ,HN.out];omega),rfl,a4,f0.out,f4.out⟩
 clear f0 f4 a4 HA H1 HG;obtain⟨m,g,hg,d9,rfl,e2,b5,h3⟩:=hrel;have HG:=Kh hg;have i9:=Kh d9;have H2:=xJ d k m;rw[HN.out]at H2;have b6:=tT d k m;obtain⟨p,hp⟩:=Nm (xK d k m);have HP:=Kh hp;rw[<-hp]at H2 b6 b5;have H6:=oD b6;rw[H2]at H6;obtain⟨wo,rfl⟩:=Nm (wr:World);obtain⟨b7,H1,f1,h5,c7⟩:=K5 b5 h3 b6 H2 H6;have i3:=b5.1;clear hg d9 hp b5 h3 b6 H2 H6;go_wp2
 go_loopg [5,6] k (fun gh v5 i wr=>∃(a g5:Nat),gh+a=k/\i=.int .i64 a/\v5=.slice (some ⟨g5,0,none⟩) n n/\P<g5/\uF wr g5 0 (nats (tK d p a))/\wo.grownBy wr none)
 case atStart=>exact⟨0,g,rfl,rfl,rfl,e2,b7.out,zV _ _⟩
 obtain⟨a,g5,hg,rfl,rfl,c4,H4,h8⟩:=hrel;have b3:=Kh hg;obtain⟨wq,rfl⟩:=Nm (wr:World);have H0:=Kh H4;have h4:=Kh h8;have e1:=H4.1;have j8:=h8.size;obtain⟨d0,d1,d2,d3⟩:=zM (zB c9.out (zH H1.out h8));clear hg H4 h8;by_cases ha:a<k
 ·have l0:(a:Int)<k:=by omega
  go_wp2
  go_loopg [7,38] n (fun gh ov i wr=>∃(q:Nat) (sa:Option Addr) (sc:Nat),gh+q=n/\i=.int .i64 q/\ov=.slice sa q sc/\wr.ownsRow wq.heap.size 3 1 (.slice sa q sc) q (nats ((rR d p a).take q))/\wq.grownBy wr none)
  case atStart=>exact⟨0,none,0,rfl,rfl,rfl,by simpa [nats] using World.ownsRow_nil _ _ _ _,zV _ _⟩
  obtain⟨q,sa,sc,hg,rfl,rfl,a1,h3⟩:=hrel;obtain⟨f3,h6,H9⟩:=K3 hg a1 h3;clear hg a1 d0 d1 d2 d3;by_cases hq:q<n
  ·have g0:(q:Int)<n:=by omega
   have H7:=zH (zH H1.out h4.out) h3;obtain⟨d0,d1,d2,d3⟩:=zM (zB c9.out H7);have hA:=f7.out.kept H7 (by simp);have ch:=hA.hd q hq;have ce:=hA.el q a hq ha;have d5:=hA.rcap q hq;have d7:=pI HD.out hq ha;have cp:=(b7.out.kept (zH h4.out h3) (by simp)).nat (nx d q a) (by rw[h5.out];exact d7);rw[Nat.zero_add]at cp;have c8:Hid ((rR d p a).take (q+1)=(rR d p a).take q++[p.getD (nx d q a) 0]):=Kh (qID (by rw[h5.out];exact hq));obtain⟨s,hs⟩:=Nm (nx d q a);rw[<-hs]at ce d7 cp c8;obtain⟨c,hc⟩:=Nm (p.getD s 0);rw[<-hc]at cp c8;have i2:=h3.size;have f9:=d5.1;have g1:(s:Int)<n:=(by omega);clear H7 hA hs hc h3 d5;go_wp2_with (first|(at_builtin;refine app1 rfl _ _ _ rfl yJ wq.heap.size _ q (nats ((rR d p a).take q)) rfl h6.out _ rfl rfl ?c1 ?c2 ?c3 ?_)|fail)
   case c1=>unfold maxLen;omega
   case c2=>omega
   case c3=>exact i2
   intro sa' sc' w6 H3 e3 g6;have i8:=Kh H3;have j3:=Kh e3;clear H3 e3;go_wp2;go_roundg (n-(q+1))
   case measure=>have:=f3.out;omega
   refine⟨q+1,sa',sc',by omega,by go_num,rfl,?_,zC H9.out j3.out (fun q e=>(h6.out.lt q e).1)⟩;rw[c8.out,qN];exact i8.out
  have H5:q=n:=by have:=f3.out;omega
  have e7:(rR d p a).length=n:=by rw[xT,h5.out]
  have i6:Hid ((rR d p a).take q=rR d p a):=Kh (by rw[H5,<-e7];exact List.take_length);have l1:=Kh H5;rw[i6.out]at h6;obtain⟨kb,rfl,i1,i0,h0⟩:=xI h6.out (by omega);have k3:=(h6.out.lt kb rfl).1;have b4:=xO d p a
  have f6:=Kh (qPG (g5+1) wr.heap.size wr (.slice (some ⟨g5,0,none⟩) n n) (.slice (some ⟨kb,0,none⟩) q sc) (tK d p a) (rR d p a) (by have:=h3.size;omega) (Nat.le_refl _)
   (jS (H0.out.kept h3 (by simp)) (by rw[b4,h5.out]) (by omega)) (Row.of_owns h6.out) (by rw[e7,b4,h5.out]) (by rw[b4,h5.out];omega)
   (fun c hc=>by have:=qND f1.out a c hc;rw[h5.out]at this;omega) (fun c hc=>by have:=qOY c7.out (by omega) c hc;omega) (by rw[b4,h5.out];omega))
  clear H5 h0;go_wp2_with fail;refine f6.out.mono ?_;rintro e w7 ⟨g7,rfl,k7,c5,a2⟩;have e8:fH (tK d p a) (rR d p a)=tK d p (a+1):=rfl;rw[e8]at c5⊢;have e0:(tK d p (a+1)).length=n:=by rw[xO,h5.out]
  rw[e0];have i7:=Kh c5.row;have j2:=Kh (zH (zH h4.out H9.out) a2);have j7:=H9.out.size;clear c5 a2 f6 e8 e0;go_wp2;go_roundg (k-(a+1))
  case measure=>have:=b3.out;omega
  exact⟨a+1,g7,by omega,by go_num,rfl,by omega,i7.out,j2.out⟩
 have e9:a=k:=by have:=b3.out;omega
 have j5:Hid (tK d p a=tK d p k):=Kh (by rw[e9]);rw[j5.out]at H0;have g9:(tK d p k).length=n:=by rw[xO,h5.out]
 have H8:=lV (g5+1) (g+1) wq (.slice (some ⟨g5,0,none⟩) n n) (.slice (some ⟨g,0,none⟩) n n) ((tK d p k).map fun(x:Nat)=>(x:Int)) (p.map fun(x:Nat)=>(x:Int))
  (by rw[<-sX];exact jS H0.out g9 (by omega)) (by rw[<-sX];exact jS (b7.out.kept h4.out (by simp)) h5.out (by omega))
 rw[qGI]at H8;have H8:=Kh H8;clear e9;by_cases he:tK d p k=p
 ·rw[decide_eq_true he]at H8
  have j4:Hid (yF d k=p):=Kh (by
   have h1:=HG.out;rw[HP.out];rw[HP.out]at he
   exact oF (by rw[HN.out];omega) he)
  clear he;go_wp2_with fail;refine H8.out.mono ?_;rintro e w8 ⟨rfl,m8,rfl⟩;go_wp2;go_ret;rw[qME,j4.out];refine⟨g,by rw[h5.out];rfl,by have:=f2.out;omega,(b7.out.kept h4.out (by simp)).kept (zT _ _ none) (by simp),?_⟩;exact zH (zH j1.out (zH H1.out h4.out)) (zT _ _ _)
 rw[decide_eq_false he]at H8
 have b0:Hid (m+1<cls (xK d k (m+1))):=Kh (by
  have h1:=nQ HD.out h5.out f1.out he;have h2:=i9.out;rw[<-HP.out]at h2;show m+1<cls (tK d (xK d k m) k);rw[<-HP.out]
  omega)
 have j0:Hid (xK d k (m+1)=tK d p k):=Kh (by rw[HP.out];rfl)
 have k2:m+1<n:=by
  have h1:=b0.out;have h2:=cls_le (xK d k (m+1));rw[xJ,HN.out]at h2;omega
 clear he;go_wp2_with fail;refine H8.out.mono ?_;rintro e w8 ⟨rfl,m8,rfl⟩;go_wp2;go_roundg (n-(m+1))
 case measure=>have:=HG.out;omega
 exact⟨m+1,g5,by omega,b0.out,rfl,c4,by rw[j0.out];exact H0.out.kept (zT _ _ none) (by simp),zH (zH H1.out h4.out) (zT _ _ _)⟩
theorem iT {P:Program}{w:World}(base:Nat)(t ty e:TypeId)(i:TypeInfo)(size:Nat)(ht:P.underlying t=some (.slice e))(hi:P.info? e=some i)(v:Value)(n:Nat)(xs:List Value)(a9:w.ownsRow base e size v n xs)(c:Nat):(Builtin.append_ #[t,t] ty #[v,.slice none 0 c]).run P w=.ok v w:=by
 rcases a9.2 with ⟨rfl,rfl⟩|⟨g,cap,cur,rfl,_,_,hnc,_⟩
 ·simp[Builtin.append_,run_underlying ht,sizeOf,typeInfo,hi,Builtin.lenOf,Builtin.firstCells]
 simp[Builtin.append_,run_underlying ht,sizeOf,typeInfo,hi,Builtin.lenOf,Builtin.firstCells,hnc,storeCells]
theorem gU {w:World}{base e size n:Nat}{v:Value}{xs:List Value}(h:w.ownsRow base e size v n xs):∃sa sc,v=.slice sa n sc:=by
 rcases h.2 with ⟨rfl,rfl⟩|⟨g,cap,cur,rfl,_⟩
 ·exact⟨none,0,rfl⟩
 exact⟨_,_,rfl⟩
theorem qQJ {P:Program}{w:World}{o:Oper}{a:Act}{K:Act->World->Prop}{Q:Exit->Act->World->Prop}(s x:Operand)(t:TypeId)(ho:o.op=.call { callee:=.builtin .append,args:=#[s,x],argTypes:=#[t,t] }){e:TypeId}{z:Value}{a8:Nat}(E:ElemOk P t e z a8)(base:Nat)(v:Value)(n:Nat)(xs:List Value)(hs:a.eval s=v)(a6:w.ownsRow base e 1 v n xs)(sv:Value)(a9:List Value)(hx:a.eval x=sv)(a4:∃B,Row B w sv a9)(h1:∀u∈a9,u.oneCell'=true)(N:Nat)(hN:n+a9.length=N)(a3:N<=maxLen)(a7:N*a8<=140737488355328)(a5:base<=w.heap.size)(h:∀sa sc w',w'.ownsRow base e 1 (.slice sa N sc) N (xs++a9)->w.grownBy w' v.ownBlock->K (a.put o.dst (.slice sa N sc)) w'):o.wp P a w K Q:=by
 obtain⟨i,hi,hz,h4,h6⟩:=info_parts E.hi;subst hN
 have fin:∀v' w',w'.ownsRow base e 1 v' (n+a9.length) (xs++a9)->w.grownBy w' v.ownBlock->K (a.put o.dst v') w':=by
  intro v' w' h1 h2;obtain⟨sa,sc,rfl⟩:=gU h1;exact h sa sc w' h1 h2
 obtain⟨B,a4⟩:=a4;rcases a4 with ⟨a',cap,rfl,rfl⟩|⟨b,off,cap,rfl,_,h2,h3,hra⟩
 ·cases a' with
  | none =>
   have hr:=iT (P:=P) (w:=w) base t o.type e i 1 E.ht hi v n xs a6 cap;unfold Oper.wp execOp;simp only[ho,resolve,invoke,builtin,Sem.run_bind,Sem.run_pure,Result.andThen_ok,List.map_toArray,List.map_cons,List.map_nil,hs,hx,hr];exact fin v w (by simpa using a6) (World.grownBy.refl w _)
  | some ad =>
   refine wp_append_own w s x t ho base e i z 1 a8 E.ht hi hz h4 h6 E.hz (by decide) v n xs hs a6 ad 0 cap [] hx rfl (fun j u hj=>by simp at hj) (fun u hu=>by simp at hu) a3 a7 a5 ?_;intro v' w' h1 h2 _;exact fin v' w' h1 h2
 refine wp_append_own w s x t ho base e i z 1 a8 E.ht hi hz h4 h6 E.hz (by decide) v n xs hs a6 ⟨b,off,none⟩ a9.length cap a9 hx (by simp) (fun j u' hj=>?_) h1 a3 a7 a5 ?_
 ·have h5:j<a9.length:=by
   rcases Nat.lt_or_ge j a9.length with h|h
   ·exact h
   ·rw[List.getElem?_eq_none h]at hj;cases hj
  have h0:(⟨b,off,none⟩:Addr).add j=⟨b,off+j,none⟩:=by unfold Addr.add;split<;>simp_all
  rw[List.getElem?_eq_getElem h5]at hj;rw[h0,hra.2 j h5,hj]
 intro v' w' h1 h2 _;exact fin v' w' h1 h2
theorem appR {P:Program}{w:World}{ops:Array Oper}{a6:List Oper}{o:Oper}{a:Act}{Q:Exit->Act->World->Prop}(a2:o.guard=none)(s x:Operand)(t:TypeId)(ho:o.op=.call { callee:=.builtin .append,args:=#[s,x],argTypes:=#[t,t] }){e:TypeId}{z:Value}{a8:Nat}(E:ElemOk P t e z a8)(base:Nat)(v:Value)(n:Nat)(xs:List Value)(hs:a.eval s=v)(a3:w.ownsRow base e 1 v n xs)(sv:Value)(a9:List Value)(hx:a.eval x=sv)(a4:∃B,Row B w sv a9)(h1:∀u∈a9,u.oneCell'=true)(N:Nat)(hN:n+a9.length=N)(a1:N<=maxLen)(a7:N*a8<=140737488355328)(a5:base<=w.heap.size)(h:∀sa sc w',w'.ownsRow base e 1 (.slice sa N sc) N (xs++a9)->w.grownBy w' v.ownBlock->wpList P ops Q a6 (a.put o.dst (.slice sa N sc)) w'):wpList P ops Q (o::a6) a w :=
 wpList_plain a2 fun _ hK=>qQJ s x t ho E base v n xs hs a3 sv a9 hx a4 h1 N hN a1 a7 a5 fun sa sc w' h2 h3=>hK _ _ (h sa sc w' h2 h3)
theorem qCC {W:World}{e base g:Nat}(h:W.heap[g]?=some (.cells #[] e (0,0)))(hb:base<=g):W.ownsRow base e 1 (.slice (some ⟨g,0,none⟩) 0 0) 0 [] :=
 ⟨by simp,.inr ⟨g,0,#[],rfl,hb,h,Nat.le_refl _,Nat.zero_le _,by simp,by simp⟩⟩
theorem bP (w:World)(o o':Obj):((w.alloc o).alloc o').heap[w.heap.size]?=some o:=zB (heap_alloc_new w o) (Ga _ _ none)
theorem bL (w:World)(o o':Obj):((w.alloc o).alloc o').heap[w.heap.size+1]?=some o':=by
 have:=heap_alloc_new (w.alloc o) o'
 rwa [zX]at this
theorem uF.take {w:World}{b off:Nat}{xs:List Value}(h:uF w b off xs)(k:Nat):uF w b off (xs.take k) :=
 ⟨h.1,fun i hi=>by rw[List.length_take]at hi;rw[h.2 i (by omega),List.getElem_take]⟩
theorem uF.drop {w:World}{b off:Nat}{xs:List Value}(h:uF w b off xs)(k:Nat):uF w b (off+k) (xs.drop k) :=
 ⟨h.1,fun i hi=>by rw[List.length_drop]at hi;rw[Nat.add_assoc,h.2 (k+i) (by omega),List.getElem_drop]⟩
theorem qNS (l:List Nat):∀u∈nats l,u.oneCell'=true:=by
 intro u hu;obtain⟨x,_,rfl⟩:=List.mem_map.1 hu;rfl
def RowT (B:Nat)(e:TypeId)(w:World)(v:Value)(xs:List Value):Prop :=
 (v=.slice none 0 0/\xs=[])\/∃b off cap cur m,v=.slice (some ⟨b,off,none⟩) xs.length cap/\b<B/\xs.length<=cap/\cap<=maxLen/\w.heap[b]?=some (.cells cur e m)/\∀i (h:i<xs.length),cur[off+i]?=some xs[i]
theorem RowT.row {B:Nat}{e:TypeId}{w:World}{v:Value}{xs:List Value}(h:RowT B e w v xs):Row B w v xs:=by
 rcases h with h|⟨b,off,cap,cur,m,h1,h2,h3,h4,h5,h6⟩
 ·exact .inl ⟨_,_,h⟩
 exact .inr ⟨b,off,cap,h1,h2,h3,h4,zQ h5,fun i hi=>by rw[cell_of_row w b (off+i) _ _ _ h5];exact h6 i hi⟩
theorem RowT.mono {B B':Nat}{e:TypeId}{w:World}{v:Value}{xs:List Value}(h:RowT B e w v xs)(hB:B<=B'):RowT B' e w v xs:=by
 rcases h with h|⟨b,off,cap,cur,m,h1,h2,h3⟩
 ·exact .inl h
 exact .inr ⟨b,off,cap,cur,m,h1,by omega,h3⟩
def xG (w:World)(e:TypeId)(k:Nat):Prop:=∃cur e' m,w.heap[k]?=some (.cells cur e' m)/\e'≠e
theorem RowT.kept {B:Nat}{e:TypeId}{w w':World}{v:Value}{xs:List Value}{row:Option Nat}(h:RowT B e w v xs)(hg:w.grownBy w' row)(hr:∀k,row=some k->B<=k\/xG w e k):RowT B e w' v xs:=by
 rcases h with h|⟨b,off,cap,cur,m,h1,h2,h3,h4,h5,h6⟩
 ·exact .inl h
 refine .inr ⟨b,off,cap,cur,m,h1,h2,h3,h4,zB h5 hg (fun eq=>?_),h6⟩;rcases hr b eq with hk|⟨cur',e',m',hk,hne⟩
 ·omega
 rw[h5]at hk;simp at hk;exact hne hk.2.1.symm
theorem RowT.of_heap {B:Nat}{e:TypeId}{w w':World}{v:Value}{xs:List Value}(h:RowT B e w v xs)(he:w'.heap=w.heap):RowT B e w' v xs:=by
 rcases h with h|⟨b,off,cap,cur,m,h1,h2,h3,h4,h5,h6⟩
 ·exact .inl h
 exact .inr ⟨b,off,cap,cur,m,h1,h2,h3,h4,by rw[he];exact h5,h6⟩
theorem RowT.of_owns {w:World}{base e:Nat}{v:Value}{n:Nat}{xs:List Value}(h:w.ownsRow base e 1 v n xs):RowT w.heap.size e w v xs:=by
 have hl:xs.length=n:=by have:=h.1;omega
 rcases h.2 with ⟨rfl,rfl⟩|⟨g,cap,cur,rfl,hb,hg,hnc,hcm,hcs,htake⟩
 ·exact .inl ⟨rfl,List.eq_nil_of_length_eq_zero hl⟩
 refine .inr ⟨g,0,cap,cur,(0,0),by rw[hl],zQ hg,by omega,hcm,hg,fun i hi=>?_⟩;have:=h.cellAt i (by omega);rw[cell_of_row w g i _ _ _ hg]at this;rw[Nat.zero_add,this,List.getElem?_eq_getElem hi]
theorem vX {w:World}{base e e' size:Nat}{v:Value}{n:Nat}{xs:List Value}(h:w.ownsRow base e size v n xs)(a9:e≠e'):∀k,v.ownBlock=some k->xG w e' k:=by
 intro k hk;rcases h.2 with ⟨rfl,_⟩|⟨g,cap,cur,rfl,_,hg,_⟩
 ·simp[Value.ownBlock]at hk
 simp[Value.ownBlock]at hk;subst hk;exact⟨cur,e,(0,0),hg,a9⟩
def tW {α:Type}(B:Nat)(e:TypeId)(f:α->List Value)(w:World)(svs:List Value)(ps:List α):Prop :=
 svs.length=ps.length/\∀i (h:i<svs.length) (h':i<ps.length),RowT B e w svs[i] (f ps[i])
section
variable {α:Type} {B:Nat} {e:TypeId} {f:α->List Value} {w:World} {svs:List Value} {ps:List α}
theorem tW.nil:tW B e f w [] []:=⟨rfl,fun i h=>by simp at h⟩
theorem tW.kept {w':World}{row:Option Nat}(h:tW B e f w svs ps)(hg:w.grownBy w' row)(hr:∀k,row=some k->B<=k\/xG w e k):tW B e f w' svs ps :=
 ⟨h.1,fun i h1 h2=>(h.2 i h1 h2).kept hg hr⟩
theorem tW.mono {B':Nat}(h:tW B e f w svs ps)(hB:B<=B'):tW B' e f w svs ps:=⟨h.1,fun i h1 h2=>(h.2 i h1 h2).mono hB⟩
theorem tW.snoc {sv:Value}{p:α}(h:tW B e f w svs ps)(hs:RowT B e w sv (f p)):tW B e f w (svs++[sv]) (ps++[p]):=by
 refine⟨by simp[h.1],fun i h1 h2=>?_⟩;by_cases hi:i<svs.length
 ·rw[List.getElem_append_left hi,List.getElem_append_left (by rw[<-h.1];exact hi)]
  exact h.2 i hi _
 have:i=svs.length:=by simp at h1;omega
 subst this;rw[List.getElem_append_right (Nat.le_refl _),List.getElem_append_right (by rw[h.1];exact Nat.le_refl _)];simpa [h.1] using hs
end
theorem eK {P:Program}{W:World}{g:Nat}{c:Int}(src e:TypeId)(hs:P.underlying src=some (.slice e))(he:P.underlying e=some (.int .u8))(a9:TypeId)(hd:P.underlying a9=some .string)(h:W.cell? ⟨g,0,none⟩=some (.int .u8 c)):(convert src a9 (.slice (some ⟨g,0,none⟩) 1 1)).run P W=.ok (.string (strOfNums [c])) W:=by
 refine run_convert_bytes_arg W src e hs he g 0 1 1 [c] rfl (fun i hi=>?_) a9 hd;have:i=0:=by simp at hi;omega
 subst this;simpa using h
section
variable {P:Program} {md:Region.Mode} {ops:Array Oper} {Q:Exit->Act->World->Prop}
def tJ (P:Program)(md:Region.Mode)(ops:Array Oper)(Q:Exit->Act->World->Prop)(G:Array Bool->World->Prop):Nat->Array Bool->Act->World->Prop
 | 0,listed,a,w=>Region.ready md ops listed=[]/\Q .normal a w
 | fuel+1,listed,a,w =>
  (Region.ready md ops listed=[]->Q .normal a w) /\
  ∀i∈Region.ready md ops listed,wpOp P ops Q i (fun a' w'=>G (listed.setIfInBounds i true) w'/\tJ P md ops Q G fuel (listed.setIfInBounds i true) a' w') a w
variable {G:Array Bool->World->Prop}
theorem dW:∀(fuel:Nat) (listed:Array Bool) (a:Act) (w:World),tJ P md ops Q G fuel listed a w->wpAny P md ops Q fuel listed a w
 | 0,_,_,_,h=>h
 | fuel+1,_,_,_,h=>⟨h.1,fun i hi=>wpOp_mono (fun a' w' h'=>dW fuel _ a' w' h'.2) (h.2 i hi)⟩
theorem gM {S:World->Prop}{U:Array Bool->Prop}{i:Nat}{oi:Oper}{v:Value}(hi:ops[i]?=some oi)(a9:∀(j:Nat) (o:Oper) cs b,ops[j]?=some o->o.op≠.select cs b)(hQ:∀c a w,Q (.panic c) (a.put oi.dst v) w->Q (.panic c) a w)(hU:∀listed j,U listed->i∈Region.ready md ops listed->j∈Region.ready md ops listed->j≠i->U (listed.setIfInBounds j true))(hG:∀listed w,U listed->G listed w->S w)(a8:∀listed w,U listed->i∈Region.ready md ops listed->G listed w->G (listed.setIfInBounds i true) w)(a7:∀listed j w,U listed->i∈Region.ready md ops listed->j∈Region.ready md ops listed->j≠i->G ((listed.setIfInBounds i true).setIfInBounds j true) w->G (listed.setIfInBounds j true) w):∀(fuel:Nat) (listed:Array Bool) (a:Act) (w:World),(∀j oj,ops[j]?=some oj->j≠i->listed.getD j true=false->(∀e∈oj.after,Region.binds md e=true->e.on≠i)->oi.apart ops oj=true)->i∈Region.ready md ops listed->U listed->YieldsIf P ops S oi v a->G listed w->tJ P md ops Q G fuel (listed.setIfInBounds i true) (a.put oi.dst v) w->tJ P md ops Q G (fuel+1) listed a w:=by
 intro fuel
 induction fuel with
 | zero =>
  intro listed a w _ hr hu hy hS H;refine⟨fun h=>(by rw[h]at hr;cases hr),fun j hj=>?_⟩;by_cases hji:j=i
  ·subst hji;exact hy.wpOp hi (hG _ _ hu hS) ⟨a8 _ _ hu hr hS,H⟩
  have:=ready_mono hj hji;rw[H.1]at this;cases this
 | succ fuel ih =>
  intro listed a w h4 hr hu hy hS H;refine⟨fun h=>(by rw[h]at hr;cases hr),fun j hj=>?_⟩;by_cases hji:j=i
  ·subst hji;exact hy.wpOp hi (hG _ _ hu hS) ⟨a8 _ _ hu hr hS,H⟩
  have h1:=H.2 j (ready_mono hj hji);obtain⟨h6,oj,h7,h9⟩:=mem_ready.1 hj
  have h8:∀e∈oj.after,Region.binds md e=true->e.on≠i:=fun e he hb heq=>by
   have h1:=h9 e he hb;have h0:=(mem_ready.1 hr).1;rw[heq]at h1;rcases Nat.lt_or_ge i listed.size with h'|h'
   ·simp[h']at h0 h1;rw[h0]at h1;cases h1
   simp[Array.getElem?_eq_none h']at h1
  have h2:=wpOp_putIf h7 (h4 j oj h7 hji h6 h8) (fun cs b=>a9 i oi cs b hi) (fun cs b=>a9 j oj cs b h7) hQ hy h1
  have h5:∀k ok,ops[k]?=some ok->k≠i->(listed.setIfInBounds j true).getD k true=false ->
    (∀e∈ok.after,Region.binds md e=true->e.on≠i)->oi.apart ops ok=true:=fun k ok hk hki hun hno=>by
   refine h4 k ok hk hki ?_ hno;by_cases hjk:j=k
   ·subst hjk;exact h6
   ·rw[Go.getD_set_ne true hjk]at hun;exact hun
  have H1:=hU listed j hu hr hj hji;refine wpOp_mono (fun a' w' h3=>?_) h2;have H0:=a7 listed j w' hu hr hj hji h3.2.1;refine⟨H0,ih (listed.setIfInBounds j true) a' w' h5 (ready_mono hr (Ne.symm hji)) H1 h3.1 H0 ?_⟩;rw[Array.setIfInBounds_comm _ _ hji];exact h3.2.2
def wF (s:Nat)(A B:World->Prop)(listed:Array Bool)(w:World):Prop:=A w/\(listed.getD s true=false->B w)
theorem uV {l:Array Bool}{i:Nat}:(l.setIfInBounds i true).getD i true=true:=by
 rcases Nat.lt_or_ge i l.size with h|h
 ·simp[h]
 simp[h]
theorem qBG {s j:Nat}{A B:World->Prop}{listed:Array Bool}{w:World}(h:wF s A B listed w):wF s A B (listed.setIfInBounds j true) w:=by
 refine⟨h.1,fun hs=>h.2 ?_⟩;by_cases e:j=s
 ·subst e;rw[uV]at hs;cases hs
 rwa [Go.getD_set_ne true e]at hs
theorem eB {s i j:Nat}{A B:World->Prop}{listed:Array Bool}{w:World}(a9:i≠s)(h:wF s A B ((listed.setIfInBounds i true).setIfInBounds j true) w):wF s A B (listed.setIfInBounds j true) w:=by
 refine⟨h.1,fun hs=>h.2 ?_⟩;by_cases e:j=s
 ·subst e;rw[uV]at hs;cases hs
 rw[Go.getD_set_ne true e]at hs⊢
 rwa [Go.getD_set_ne true a9]
variable {s:Nat} {A B:World->Prop}
theorem qSF {i:Nat}{oi:Oper}{v:Value}{a9:Nat}{listed:Array Bool}{a:Act}{w:World}(hi:ops[i]?=some oi)(a8:(i == s)=false)(hs:Region.noSelect ops=true)(hf:Region.free md ops listed i=true)(hr:(Region.ready md ops listed).contains i=true)(hQ:∀c a w,Q (.panic c) (a.put oi.dst v) w->Q (.panic c) a w)(hy:YieldsIf P ops A oi v a)(hG:wF s A B listed w)(h:tJ P md ops Q (wF s A B) a9 (listed.setIfInBounds i true) (a.put oi.dst v) w):tJ P md ops Q (wF s A B) (a9+1) listed a w :=
 gM (S:=A) (U:=fun _=>True) hi (Region.noSelect_spec hs) hQ (fun _ _ _ _ _ _=>trivial) (fun _ _ _ h=>h.1) (fun _ _ _ _ h=>qBG h)
  (fun _ _ _ _ _ _ _ h=>eB (by simpa using a8) h) a9 listed a w (Region.free_spec hi hf) (by simpa using hr) trivial hy hG h
theorem qTW {i:Nat}{oi:Oper}{v:Value}{a9:Nat}{listed:Array Bool}{a:Act}{w:World}(hi:ops[i]?=some oi)(a7:(i == s)=false)(hw:(match ops[s]? with|some os=>os.after.any fun e=>Region.binds md e && (e.on == i)|none=>false)=true)(a8:listed.getD s true=false)(hs:Region.noSelect ops=true)(hf:Region.free md ops listed i=true)(hr:(Region.ready md ops listed).contains i=true)(hQ:∀c a w,Q (.panic c) (a.put oi.dst v) w->Q (.panic c) a w)(hy:YieldsIf P ops (fun w=>A w/\B w) oi v a)(hG:wF s A B listed w)(h:tJ P md ops Q (wF s A B) a9 (listed.setIfInBounds i true) (a.put oi.dst v) w):tJ P md ops Q (wF s A B) (a9+1) listed a w:=by
 refine gM (S:=fun w=>A w/\B w) (U:=fun l=>l.getD s true=false) hi (Region.noSelect_spec hs) hQ (fun l j hu hir hj hji=>?_) (fun l w hu h=>⟨h.1,h.2 hu⟩) (fun _ _ _ _ h=>qBG h)
  (fun _ _ _ _ _ _ _ h=>eB (by simpa using a7) h) a9 listed a w (Region.free_spec hi hf) (by simpa using hr) a8 hy hG h
 by_cases e:j=s
 ·subst e
  exfalso;obtain⟨h4,oj,h3,h2⟩:=mem_ready.1 hj;rw[h3]at hw;simp only[Array.any_eq_true,Bool.and_eq_true,beq_iff_eq]at hw;obtain⟨k,hk,hb,he⟩:=hw;have h1:=h2 _ (Array.getElem_mem hk) hb;have h0:=(mem_ready.1 hir).1;rw[he]at h1;rcases Nat.lt_or_ge i l.size with h'|h'
  ·simp[h']at h0 h1;rw[h0]at h1;cases h1
  simp[Array.getElem?_eq_none h']at h1
 rw[Go.getD_set_ne true e];exact hu
theorem zO (i:Nat){oi:Oper}{v:Value}{a9:Nat}{listed:Array Bool}{a a':Act}{w:World}(hG:wF s A B listed w)(h:tJ P md ops Q (wF s A B) a9 (listed.setIfInBounds i true) a' w)(hi:ops[i]?=some oi:=by rfl)(a8:(i == s)=false:=by rfl)(hs:Region.noSelect ops=true:=by kernel_rfl)(hf:Region.free md ops listed i=true:=by kernel_rfl)(hr:(Region.ready md ops listed).contains i=true:=by kernel_rfl)(hw:Region.wanted oi (yielded ops a.tmps)=true:=by rfl)(hv:∀w,A w->(execOp a.eval oi).run P w=.ok (.value v) w:=by(intro wz hz;(try dsimp only at hz);(repeat obtain⟨_,hz⟩:=hz);go_simp;(try with_reducible rfl)))(hQ:∀c a w,Q (.panic c) (a.put oi.dst v) w->Q (.panic c) a w:=by exact fun _ _ _ h=>h)(ha:a.put oi.dst v=a':=by((try simp only[Act.put,sPd,sPe,sPf,sPa,sPb,sPc]);with_reducible rfl)):
  tJ P md ops Q (wF s A B) (a9+1) listed a w:=qSF hi a8 hs hf hr hQ (Or.inl ⟨hw,hv⟩) hG (by rw[ha];exact h)
theorem xD (i:Nat){oi:Oper}{v:Value}{a9:Nat}{listed:Array Bool}{a a':Act}{w:World}(hG:wF s A B listed w)(h:tJ P md ops Q (wF s A B) a9 (listed.setIfInBounds i true) a' w)(hi:ops[i]?=some oi:=by rfl)(a6:(i == s)=false:=by rfl)(a8:(match ops[s]? with|some os=>os.after.any fun e=>Region.binds md e && (e.on == i)|none=>false)=true:=by kernel_rfl)(a7:listed.getD s true=false:=by rfl)(hs:Region.noSelect ops=true:=by kernel_rfl)(hf:Region.free md ops listed i=true:=by kernel_rfl)(hr:(Region.ready md ops listed).contains i=true:=by kernel_rfl)(hw:Region.wanted oi (yielded ops a.tmps)=true:=by rfl)(hv:∀w,A w/\B w->(execOp a.eval oi).run P w=.ok (.value v) w:=by(rintro wz ⟨hy,hz⟩;(try dsimp only at hz);(try dsimp only at hy);(repeat obtain⟨_,hz⟩:=hz);(repeat obtain⟨_,hy⟩:=hy);go_simp;(try with_reducible rfl)))(hQ:∀c a w,Q (.panic c) (a.put oi.dst v) w->Q (.panic c) a w:=by exact fun _ _ _ h=>h)(ha:a.put oi.dst v=a':=by((try simp only[Act.put,sPd,sPe,sPf,sPa,sPb,sPc]);with_reducible rfl)):
  tJ P md ops Q (wF s A B) (a9+1) listed a w:=qTW hi a6 a8 a7 hs hf hr hQ (Or.inl ⟨hw,hv⟩) hG (by rw[ha];exact h)
theorem rE {listed:Array Bool}{a:Act}{w:World}(hr:Region.ready md ops listed=[])(h:Q .normal a w):∀fuel,tJ P md ops Q G fuel listed a w
 | 0=>⟨hr,h⟩
 | _+1=>⟨fun _=>h,by rw[hr];simp⟩
theorem oneG {i:Nat}{o:Oper}{a9:Nat}{listed:Array Bool}{a:Act}{w:World}(hr:Region.ready md ops listed=[i])(ho:ops[i]?=some o)(h:∀K':Act->World->Prop,Shut (∀a w,G (listed.setIfInBounds i true) w->tJ P md ops Q G a9 (listed.setIfInBounds i true) a w->K' a w)->if Region.wanted o (yielded ops a.tmps)=true then Oper.wp P o a w K' Q else K' (a.put o.dst undef) w):tJ P md ops Q G (a9+1) listed a w:=by
 refine⟨fun h0=>(by rw[hr]at h0;cases h0),fun j hj=>?_⟩;rw[hr]at hj;have:j=i:=by simpa using hj
 subst this;exact wpOp_step ho (fun K' hK=>h K' (fun a w hG hW=>hK a w ⟨hG,hW⟩))
theorem twoG {i j:Nat}{o o':Oper}{a9:Nat}{listed:Array Bool}{a:Act}{w:World}(hr:Region.ready md ops listed=[i,j])(ho:ops[i]?=some o)(a8:ops[j]?=some o')(h:∀K':Act->World->Prop,Shut (∀a w,G (listed.setIfInBounds i true) w->tJ P md ops Q G a9 (listed.setIfInBounds i true) a w->K' a w)->if Region.wanted o (yielded ops a.tmps)=true then Oper.wp P o a w K' Q else K' (a.put o.dst undef) w)(h':∀K':Act->World->Prop,Shut (∀a w,G (listed.setIfInBounds j true) w->tJ P md ops Q G a9 (listed.setIfInBounds j true) a w->K' a w)->if Region.wanted o' (yielded ops a.tmps)=true then Oper.wp P o' a w K' Q else K' (a.put o'.dst undef) w):tJ P md ops Q G (a9+1) listed a w:=by
 refine⟨fun h0=>(by rw[hr]at h0;cases h0),fun k hk=>?_⟩;rw[hr]at hk;rcases (by simpa using hk:k=i\/k=j) with rfl|rfl
 ·exact wpOp_step ho (fun K' hK=>h K' (fun a w hG hW=>hK a w ⟨hG,hW⟩))
 exact wpOp_step a8 (fun K' hK=>h' K' (fun a w hG hW=>hK a w ⟨hG,hW⟩))
theorem yN {id:Nat}{a:Act}{w:World}(hm:P.follows .mixedOrders=true)(h:tJ P .any ops Q G ops.size (Array.replicate ops.size false) a w.drew):(Code.region id ops true).wp P Q a w :=
 wp_region_any hm (dW _ _ _ _ h)
end
theorem iG (p q:Nat->Bool)(a9:∀j,q j=true->p j=true):∀l:List Nat,(l.filter q).length<=(l.filter p).length
 | []=>Nat.le_refl _
 | x::l=>by
  have ih:=iG p q a9 l
  by_cases hq:q x=true
  ·rw[List.filter_cons_of_pos hq,List.filter_cons_of_pos (a9 x hq)]
   simp only[List.length_cons];omega
  ·rw[List.filter_cons_of_neg hq]
   by_cases hp:p x=true
   ·rw[List.filter_cons_of_pos hp];simp only[List.length_cons];omega
   ·rw[List.filter_cons_of_neg hp];exact ih
theorem iF (p q:Nat->Bool)(a9:∀j,q j=true->p j=true){i:Nat}(hp:p i=true)(hq:q i=false):∀l:List Nat,i∈l->(l.filter q).length<(l.filter p).length
 | [],h=>by cases h
 | x::l,h=>by
  rcases List.mem_cons.1 h with rfl|h'
  ·have:=iG p q a9 l
   rw[List.filter_cons_of_pos hp,List.filter_cons_of_neg (by rw[hq];simp)]
   simp only[List.length_cons];omega
  ·have ih:=iF p q a9 hp hq l h'
   by_cases hqx:q x=true
   ·rw[List.filter_cons_of_pos hqx,List.filter_cons_of_pos (a9 x hqx)]
    simp only[List.length_cons];omega
   ·rw[List.filter_cons_of_neg hqx]
    by_cases hpx:p x=true
    ·rw[List.filter_cons_of_pos hpx];simp only[List.length_cons];omega
    ·rw[List.filter_cons_of_neg hpx];exact ih
section
variable {P:Program} {md:Region.Mode} {ops:Array Oper} {Q:Exit->Act->World->Prop}
def qFK (ops:Array Oper)(listed:Array Bool):Nat:=((List.range ops.size).filter fun i=>!listed.getD i true).length
theorem cJ {listed:Array Bool}{i:Nat}(hi:i∈Region.ready md ops listed):qFK ops (listed.setIfInBounds i true)<qFK ops listed:=by
 obtain⟨h0,o,ho,_⟩:=mem_ready.1 hi
 have h1:i<ops.size:=by
  rcases Nat.lt_or_ge i ops.size with h|h
  ·exact h
  rw[Array.getElem?_eq_none h]at ho;cases ho
 refine iF _ _ (fun j hj=>?_) (i:=i) (by rw[h0];rfl) (by rw[uV];rfl) _ (List.mem_range.2 h1);by_cases e:i=j
 ·subst e;rw[uV]at hj;cases hj
 rwa [Go.getD_set_ne true e]at hj
end
end Go.Proofs.Ytobakifdllameaa
