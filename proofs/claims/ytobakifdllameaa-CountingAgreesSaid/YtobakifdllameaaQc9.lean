/- Part 9 of the proof. -/
import Derived.Test.YtobakifdllameaaQc8
import Derived.Deep.RegionLaw
import Derived.Shelf.Slices.Equal
import Derived.Ground.Names2Prog
import Derived.Shelf.Slices.Clone
import Derived.Shelf.Slices.Empties2
import Derived.Ground.SlgnProg
import Derived.Shelf.SlicesE.Equal
import Derived.Ground.SlgfProg
import Derived.Shelf.SlicesE.IndexFunc
import Derived.Shelf.SlicesE.DeleteFunc
import Derived.Test.YtobakifdllameaaProg
set_option linter.unusedVariables false
set_option linter.unusedSimpArgs false
set_option maxRecDepth 100000
set_option maxHeartbeats 16000000
namespace Go.Proofs.Ytobakifdllameaa
def qPU (beh:List Int)(m:Nat):Prop:=beh.length=m/\∀i,i<m->(i=0/\beh.getD i 0 = -1)\/(0<=beh.getD i 0/\beh.getD i 0<i)
structure PEn (gs:List (List Nat))(n k d m:Nat)(els:List (List Nat))(pre las:List Int)(right:List (List Nat))(beh:List Int)(sgl:List Nat):Prop where
 hk:gs.length=k
 proc:xZ gs (yK gs n k) d=((els,pre,las),right)
 len:els.length=m
 dle:d<=m
 mle:m<=2000
 it:∀f∈els,IsT n f
 beh:qPU beh m
 rl:right.length=d
 row:∀j,j<d->(right.getD j []).length=k/\∀r∈right.getD j [],r<m
 sgl:sgl.length=k/\∀r∈sgl,r<m
structure PRow (gs:List (List Nat))(n k d m:Nat)(els:List (List Nat))(pre las:List Int)(x mx:Nat)(elx:List (List Nat))(prx lax:List Int)(rox:List Nat)(bex:List Int):Prop where
 row:rV gs d (els,pre,las) x=(elx,prx,lax,rox)
 len:elx.length=mx
 ge:m<=mx
 mle:mx<=2000
 it:∀f∈elx,IsT n f
 beh:qPU bex mx
 rx:rox.length=x/\∀r∈rox,r<mx
 pre:els <+: elx
section
variable {gs els:List (List Nat)} {n k d m x mx:Nat} {pre las:List Int} {right elx:List (List Nat)} {beh prx lax bex:List Int} {sgl rox:List Nat}
theorem PEn.start (h:PEn gs n k d m els pre las right beh sgl):PRow gs n k d m els pre las 0 m els pre las [] beh :=
 ⟨rfl,h.len,Nat.le_refl _,h.mle,h.it,h.beh,⟨rfl,fun r hr=>by simp at hr⟩,List.prefix_refl _⟩
theorem PRow.get (h:PRow gs n k d m els pre las x mx elx prx lax rox bex)(hd:d<els.length):elx.getD d []=els.getD d []:=iH h.pre hd _
theorem PRow.known (h:PRow gs n k d m els pre las x mx elx prx lax rox bex)(hd:d<els.length)(a9:wK (els.getD d []) (gs.getD x [])∈elx):PRow gs n k d m els pre las (x+1) mx elx prx lax (rox++[elx.idxOf (wK (els.getD d []) (gs.getD x []))]) bex:=by
 refine⟨?_,h.len,h.ge,h.mle,h.it,h.beh,⟨by simp[h.rx.1],fun r hr=>?_⟩,h.pre⟩
 ·rw[rV,h.row]
  simp only[dM];rw[h.get hd,if_pos a9]
 rcases List.mem_append.1 hr with hr|hr
 ·exact h.rx.2 r hr
 rw[List.mem_singleton]at hr;subst hr;rw[<-h.len];exact List.idxOf_lt_length_of_mem a9
theorem PRow.new (h:PRow gs n k d m els pre las x mx elx prx lax rox bex)(hd:d<els.length)(a9:wK (els.getD d []) (gs.getD x []) ∉ elx)(hm:mx<2000)(a8:IsT n (wK (els.getD d []) (gs.getD x []))){b:Nat}(hb:b<mx):PRow gs n k d m els pre las (x+1) (mx+1) (elx++[wK (els.getD d []) (gs.getD x [])]) (prx++[(d:Int)]) (lax++[(x:Int)]) (rox++[mx]) (bex++[(b:Int)]):=by
 refine⟨?_,by simp[h.len],by have:=h.ge;omega,by omega,fun f hf=>?_,⟨by simp[h.beh.1],fun i hi=>?_⟩,⟨by simp[h.rx.1],fun r hr=>?_⟩,h.pre.trans (List.prefix_append _ _)⟩
 ·rw[rV,h.row]
  simp only[dM];rw[h.get hd,if_neg a9,h.len]
 ·rcases List.mem_append.1 hf with hf|hf
  ·exact h.it f hf
  rw[List.mem_singleton]at hf;subst hf;exact a8
 ·rcases Nat.lt_or_ge i mx with h3|h3
  ·rw[xQ (by rw[h.beh.1];exact h3)];exact h.beh.2 i h3
  have:i=mx:=by omega
  subst this;rw[wJ h.beh.1.symm];exact .inr ⟨by omega,by omega⟩
 rcases List.mem_append.1 hr with hr|hr
 ·have:=h.rx.2 r hr;omega
 rw[List.mem_singleton]at hr;omega
theorem PRow.after (h:PRow gs n k d m els pre las x mx elx prx lax rox bex)(hp:PEn gs n k d m els pre las right beh sgl)(hd:d<m)(hx:x<k):qFI k d right (bex.getD d 0) x/\lL sgl right (bex.getD d 0) x<m:=by
 rcases h.beh.2 d (by have:=h.ge;omega) with ⟨h1,h2⟩|⟨h1,h2⟩
 ·refine⟨.inl ⟨h2,hx⟩,?_⟩
  rw[lL,if_pos h2];exact hp.sgl.2 _ (uP (by rw[hp.sgl.1];exact hx))
 have hj:(bex.getD d 0).toNat<d:=by omega
 obtain⟨h3,h4⟩:=hp.row _ hj;refine⟨.inr ⟨h1,by omega,by rw[h3];exact hx⟩,?_⟩;rw[lL,if_neg (by omega)];exact h4 _ (uP (by rw[h3];exact hx))
theorem PRow.done (h:PRow gs n k d m els pre las k mx elx prx lax rox bex)(hp:PEn gs n k d m els pre las right beh sgl)(hd:d<m):PEn gs n k (d+1) mx elx prx lax (right++[rox]) bex sgl:=by
 have h0:=h.ge;refine⟨hp.hk,?_,h.len,by omega,h.mle,h.it,h.beh,by simp[hp.rl],fun j hj=>?_,⟨hp.sgl.1,fun r hr=>by have:=hp.sgl.2 r hr;omega⟩⟩
 ·rw[xZ,hp.proc,hp.hk]
  simp only[h.row]
 rcases Nat.lt_or_ge j d with h3|h3
 ·rw[xQ (by rw[hp.rl];exact h3)]
  obtain⟨h4,h5⟩:=hp.row j h3;exact⟨h4,fun r hr=>by have:=h5 r hr;omega⟩
 have:j=d:=by omega
 subst this;rw[wJ hp.rl.symm];exact h.rx
theorem PRow.full (h:PRow gs n k d m els pre las x mx elx prx lax rox bex)(hp:PEn gs n k d m els pre las right beh sgl)(hd:d<m)(hx:x<=k)(hm:mx=2000):mF gs (yK gs n k) n:=by
 refine⟨d,x,by rw[hp.proc];show d<els.length;rw[hp.len];exact hd,by rw[hp.hk];exact hx,?_,?_⟩
 ·rw[hp.proc];simp only[h.row];rw[h.len,hm]
 rw[hp.proc];simp only[h.row];exact h.it
def rowN (k:Nat)(l:List Nat):List Nat:=l++List.replicate (k-l.length) 0
theorem nN {l:List Nat}(h:l.length<=k):(rowN k l).length=k:=by simp[rowN];omega
theorem qJN:rowN k []=List.replicate k 0:=by simp[rowN]
theorem qJO {l:List Nat}(h:l.length=k):rowN k l=l:=by simp[rowN,h]
theorem fL {l:List Nat}{x y:Nat}(h:l.length=x)(hx:x<k):(rowN k l).set x y=rowN k (l++[y]):=by
 unfold rowN;rw[List.set_append_right _ _ (by omega),h,Nat.sub_self,List.length_append,List.length_singleton,h,show k-x=(k-(x+1))+1 by omega,List.replicate_succ,List.set_cons_zero,List.append_assoc];rfl
end
open Go.Maps Go.RowKit
section
variable {α:Type} {mt kt:TypeId} {V:α->Prop} {kv:α->Value} {w:World}
theorem qGT [DecidableEq α]{ops:Array Oper}{o:Oper}{a:Act}{K':Act->World->Prop}{Q:Exit->Act->World->Prop}{R:Prop}(K:KeyK mt kt V kv)(hg:o.guard=none)(m x v:Operand)(a9:o.op=Op.mapUpdate mt m x v)(b n c:Nat)(f:α->Option Nat)(z:α)(y:Nat)(hm:a.eval m=.map (some b))(hx:a.eval x=kv z)(hv:a.eval v=.int .i64 (y:Int))(h:MapK kt V kv w b n c f)(hn:n<maxLen)(hz:V z)(hy:y<4611686018427387904)(hK:∀w',MapK kt V kv w' b (n+1) (if (f z).isSome then c else c+1) (fun q=>if q=z then some y else f q)->w.grownBy w' (some b)->K' (a.put o.dst undef) w'):
  if Region.wanted o (yielded ops a.tmps)=true then Oper.wp Try.prog o a w K' Q else R:=by
 have hw:Region.wanted o (yielded ops a.tmps)=true:=by simp[Region.wanted,hg]
 rw[if_pos hw];obtain⟨D,h1,h2,h3⟩:=h;obtain⟨kl,h0⟩:=Option.isSome_iff_exists.1 (K.of z hz);obtain⟨w',h4,h5,h7⟩:=h1.update K.key K.und hn h0 (plainElem_int tM (bM (x:=(y:Int)) ⟨by omega,by omega⟩));unfold Oper.wp;simp[execOp,a9,hm,hx,hv,h4,Result.andThen];refine hK w' ⟨_,h5,?_,fun q ql hq hql=>?_⟩ h7
 ·rw[size_put (h1.tidy K.key),(h3 z kl hz h0).1,h2]
 ·by_cases e:q=z
  ·subst e
   rw[h0]at hql;cases hql;refine⟨by rw[has_put_same h1.isMap (K.key.key h0)];simp,?_⟩;simp only[if_pos];rw[atKey_put_same h1.isMap (K.key.key h0)];rfl
  ·have h6:ql≠kl:=fun h=>e (K.inj q z hq hz (K.key.inj (hql.trans (congrArg some h)) h0))
   obtain⟨e1,e2⟩:=h3 q ql hq hql;simp only[if_neg e];exact⟨by rw[has_put_other h6,e1],by rw[atKey_put_other h6,e2]⟩
end
theorem qAF {w0 wb w:World}{B o n k m d s ub:Nat}{sG:Option Addr}{cG:Nat}{a7:List Value}{gs a5 right:List (List Nat)}{pre a9 a8:List Int}{a6:List Nat}{tl:List RowS}(h:RunS w0 B o n k m d s ub sG cG a7 gs a5 pre a9 right a8 a6 tl wb)(hg:wb.grownBy w none){g cf:Nat}{f:List Nat}(b8:n<=cf)(b9:cf<=maxLen)(a4:Arr w g 3 (nats f))(a0:wb.heap.size<=g)(hf:IsT n f)(a3:f ∉ a5)(h1:1<=n)(a2:n<=32)(hm:m<=4000)(p x b:Int)(word:ByteArray)(a1:word.size<=m):Calls Try.prog 91 #[.pointer (some ⟨o,0,none⟩),.slice (some ⟨g,0,none⟩) n cf,.int .i64 p,.int .i64 x,.string word,.int .i64 b] w fun e w'=>e=.returned (.int .i64 (m:Int))/\RunS w0 B o n k (m+1) d s ub sG cG a7 gs (a5++[f]) (pre++[p]) (a9++[x]) right (a8++[b]) a6 tl w'/\w0.grownBy w' none:=by
 obtain⟨X0,mb,u,us,h2,h3,ws,sE,sP,sL,sR,sU,sW,sB,sS,cE,cP,cL,cR,cU,cW,cB,cS,hB,hE,hR,hG,⟨c,hM⟩,g2,e2,hl,e4,hw,hu⟩:=h;obtain⟨X,hX⟩:∃X:Nat->Prop,X=fun q=>X0 q\/q=g:=⟨_,rfl⟩;have i2:=a4.lt;have hS:=hB.fresh (Y:=fun q=>q=g) hg (fun q hq=>by subst hq;exact⟨a0,i2⟩);have h7:=hB.mem.keep hg;have f6:xW X 3 nats w h2 a5:=by rw[hX];exact(hE.kept h7 hg.size).mono (fun q hq=>.inl hq)
 have e9:xW X 3 nats w h3 right:=by rw[hX];exact(hR.kept h7 hg.size).mono (fun q hq=>.inl hq)
 have f0:xW X 3 nats w a7 gs:=by rw[hX];exact(hG.kept h7 hg.size).mono (fun q hq=>.inl hq)
 have c5:RowX X 3 w (.slice (some ⟨g,0,none⟩) n cf) (nats f):=RowX.of_new a4 hf.1 b8 b9 (by rw[hX];exact .inr rfl);have g3:=hM.lt;have c4:=hM.kept hg (by simp)
 have H6:¬X mb:=by
  rw[hX];intro e;rcases e with e|e
  ·exact g2 e
  omega
 rw[<-hX]at hS
 have H5:o≠mb:=fun e=>by
  obtain⟨es,clock,hb⟩:=hM.obj;have:=hB.box;rw[e,hb]at this;simp at this
 have d5:∀r∈(⟨B,22,.slice sE m cE,m,h2,1⟩::⟨B,3,.slice sP m cP,m,ints pre,1⟩::⟨B,3,.slice sL m cL,m,ints a9,1⟩::⟨B,22,.slice sR d cR,d,h3,1⟩::⟨B,135,.slice sU u cU,u,us,2⟩::⟨B,9,.slice sW m cW,m,yZ ws,1⟩::⟨B,3,.slice sB m cB,m,ints a8,1⟩::⟨B,3,.slice sS s cS,s,nats a6,1⟩::⟨B,22,.slice sG k cG,k,a7,1⟩::tl),r.v.ownBlock≠some mb:=fun r hr=>uU (es:=#[]) (clock:=0) (hS.mem.own r hr) c4.obj;obtain⟨HS,j0,i5,i8,i9,H4⟩:=K6 hS f6 e9 f0 c5 c4;obtain⟨g0,j1,HL,i7,HW,HX⟩:=K6 d5 a4 hl e4 hw hX;have g1:=Kh a3;have HF:=Kh hf;have g4:a5.length=m:=hl.1;have f9:Hid (∀W:World,w.grownBy W none->Calls Try.prog 93 #[.slice (some ⟨g,0,none⟩) n cf] W fun e w'=>e=.returned (.string (txtT f))/\W.grownBy w' none):=Kh (fun W hgW=>eN w.heap.size W _ f n hgW.size (c5.row.kept hgW (by simp)) hf h1 a2);clear hB hE hR hG hM hl e4 hw hX hS f6 e9 f0 c5 c4 d5 a4 a3 g4 h7 hf;have q3:=zG HS.out.box 3;simp only[List.getElem_toArray,List.getElem_cons_zero,List.getElem_cons_succ]at q3;go_enter Try.func91,Try.ntmps91;go_upto_region 2 with fail;clear q3
 have c8:Hid (∀W:World,w.grownBy W none->W.cell? ⟨o,9,none⟩=some (.map (some mb))):=Kh (fun W hgW=>by
  have q9:=zG (HS.out.grow hgW).box 9 (by simp)
  simpa only[List.getElem_toArray,List.getElem_cons_zero,List.getElem_cons_succ] using q9)
 obtain⟨w7,c1⟩:=Nm w.drew;have e7:w.grownBy w7 none:=by rw[c1];exact zU w none
 have f8:=Kh c1;have c0:=Kh e7;clear c1 e7;refine wp_region_noPanic ?_;refine yN (G:=wF 7 (fun _=>True) (fun W=>W.cell? ⟨o,9,none⟩=some (.map (some mb)))) (by kernel_rfl) ?_;rw[<-f8.out];have C:=Kh (c8.out w7 c0.out);refine zO 0 ⟨trivial,fun _=>C.out⟩ ?_;refine zO 1 ⟨trivial,fun _=>C.out⟩ ?_;refine zO 2 ⟨trivial,fun _=>C.out⟩ ?_;refine xD 3 ⟨trivial,fun _=>C.out⟩ ?_;refine zO 4 ⟨trivial,fun _=>C.out⟩ ?_;refine zO 6 ⟨trivial,fun _=>C.out⟩ ?_;refine oneG (i:=5) (by kernel_rfl) rfl (fun K hK=>?_);go_simp
 go_at_call 93
 refine(f9.out w7 c0.out).mono ?_;rintro e w8 ⟨rfl,e6⟩;have h8:=zC c0.out e6;have C8:=Kh (c8.out w8 h8);refine hK.out _ _ ⟨trivial,fun _=>C8.out⟩ ?_;clear hK K C e6
 try simp only[Act.put,sPa,sPb,sPc]
 refine oneG (i:=7) (by kernel_rfl) rfl (fun K hK=>?_);refine qGT (aJ a2) rfl (.tmp 23) (.tmp 25) (.tmp 26) rfl mb m c (numE a5) f m rfl rfl rfl (H4.out.kept h8 (by simp)) (by unfold maxLen;omega) HF.out (by omega) ?_;intro w9 b3 e5;have e1:numE a5 f=none:=if_neg g1.out;rw[e1]at b3;have e8:(fun q=>if q=f then some m else numE a5 q)=numE (a5++[f]):=by rw[<-HL.out.1];exact qKH g1.out
 rw[e8]at b3;have c7:=Kh b3;have h6:Hid (BoxS B X o 114 w0 w (⟨B,22,.slice sE m cE,m,h2,1⟩::⟨B,3,.slice sP m cP,m,ints pre,1⟩::⟨B,3,.slice sL m cL,m,ints a9,1⟩::⟨B,22,.slice sR d cR,d,h3,1⟩::⟨B,135,.slice sU u cU,u,us,2⟩::⟨B,9,.slice sW m cW,m,yZ ws,1⟩::⟨B,3,.slice sB m cB,m,ints a8,1⟩::⟨B,3,.slice sS s cS,s,nats a6,1⟩::⟨B,22,.slice sG k cG,k,a7,1⟩::tl) #[.int .i64 (n:Int),.bool true,.slice sG k cG,.slice sE m cE,.slice sP m cP,.slice sL m cL,.slice sR d cR,.slice sU u cU,.int .i64 (d:Int),.map (some mb),.slice sW m cW,.slice sB m cB,.slice sS s cS] w9):=Kh ((HS.out.grow h8).far e5 g0.out H6 H5 e2);refine hK.out _ _ ⟨trivial,fun h=>by simp at h⟩ ?_;clear hK K C8 b3 e1 e8 e5 h8
 try simp only[Act.put,sPa,sPb,sPc]
 refine rE (by kernel_rfl) ?_ _;refine NoPanic.normal ?_;have c2:=c7.out.lt;have i6:=Kh h6.out.kept;have c6:=Kh h6.out.wk;have h6:=Kh (h6.out.stand c2 (fun r hr=>uU (es:=#[]) (clock:=0) (h6.out.mem.own r hr) c7.out.obj) H5);obtain⟨X1,c3⟩:∃X1:Nat->Prop,X1=fun q=>X q\/q=mb:=⟨_,rfl⟩;rw[<-c3]at h6;have f7:=Kh c3;clear c3 c8 f9 f8 c0 g0 H4;have q1:=zG h6.out.box 3;simp only[List.getElem_toArray,List.getElem_cons_zero,List.getElem_cons_succ]at q1;have e0:=h6.out.own (r:=⟨B,22,.slice sE m cE,m,h2,1⟩) (by simp);have d3:=Nat.le_trans h6.out.base h6.out.wk;go_upto_region 4 with (first|(at_builtin;refine qX rfl _ _ _ rfl wP.toN B (.slice sE m cE) (m) (h2) rfl e0 [.slice (some ⟨g,0,none⟩) n cf] rfl rfl ?z1 ?z2 ?z3 ?z4 ?_;(case z1=>(intro v hv;simp only[List.mem_cons,List.not_mem_nil,or_false]at hv;(first|(subst hv;rfl)|(rcases hv with rfl|rfl<;>rfl))));(case z2=>(unfold maxLen;omega));(case z3=>(show (m+1)*24<=140737488355328;omega));(case z4=>exact d3);intro sN1 cN1 wM1 h0 h5 h4;(have H4:Hid (BoxS B X1 o 114 w0 w9 (⟨B,22,.slice sN1 (m+1) cN1,m+1,h2++[.slice (some ⟨g,0,none⟩) n cf],1⟩::⟨B,3,.slice sP m cP,m,ints pre,1⟩::⟨B,3,.slice sL m cL,m,ints a9,1⟩::⟨B,22,.slice sR d cR,d,h3,1⟩::⟨B,135,.slice sU u cU,u,us,2⟩::⟨B,9,.slice sW m cW,m,yZ ws,1⟩::⟨B,3,.slice sB m cB,m,ints a8,1⟩::⟨B,3,.slice sS s cS,s,nats a6,1⟩::⟨B,22,.slice sG k cG,k,a7,1⟩::tl) #[.int .i64 (n:Int),.bool true,.slice sG k cG,.slice sE m cE,.slice sP m cP,.slice sL m cL,.slice sR d cR,.slice sU u cU,.int .i64 (d:Int),.map (some mb),.slice sW m cW,.slice sB m cB,.slice sS s cS] wM1):=Kh (h6.out.appAt (j:=0) rfl h0 h5 h4));(have p1:=zG H4.out.box 3);simp only[List.getElem_toArray,List.getElem_cons_zero,List.getElem_cons_succ]at p1;(have f1:=zA H4.out.box 3);clear h0 h5 h4)|fail);obtain⟨wZ1,H3⟩:=Nm (wM1.setCell ⟨o,3,none⟩ (.slice sN1 (m+1) cN1));have b1:Hid (BoxS B X1 o 114 w0 w9 (⟨B,22,.slice sN1 (m+1) cN1,m+1,h2++[.slice (some ⟨g,0,none⟩) n cf],1⟩::⟨B,3,.slice sP m cP,m,ints pre,1⟩::⟨B,3,.slice sL m cL,m,ints a9,1⟩::⟨B,22,.slice sR d cR,d,h3,1⟩::⟨B,135,.slice sU u cU,u,us,2⟩::⟨B,9,.slice sW m cW,m,yZ ws,1⟩::⟨B,3,.slice sB m cB,m,ints a8,1⟩::⟨B,3,.slice sS s cS,s,nats a6,1⟩::⟨B,22,.slice sG k cG,k,a7,1⟩::tl) #[.int .i64 (n:Int),.bool true,.slice sG k cG,.slice sN1 (m+1) cN1,.slice sP m cP,.slice sL m cL,.slice sR d cR,.slice sU u cU,.int .i64 (d:Int),.map (some mb),.slice sW m cW,.slice sB m cB,.slice sS s cS] wZ1):=Kh (by rw[H3];exact H4.out.set 3 (.slice sN1 (m+1) cN1));rw[<-H3];clear H3 q1 e0 d3 H4 p1 f1;have q2:=zG b1.out.box 4;simp only[List.getElem_toArray,List.getElem_cons_zero,List.getElem_cons_succ]at q2;have d9:=b1.out.own (r:=⟨B,3,.slice sP m cP,m,ints pre,1⟩) (by simp);have d2:=Nat.le_trans b1.out.base b1.out.wk;go_upto_region 5 with (first|(at_builtin;refine qX rfl _ _ _ rfl yJ.toN B (.slice sP m cP) (m) (ints pre) rfl d9 [.int .i64 p] rfl rfl ?z1 ?z2 ?z3 ?z4 ?_;(case z1=>(intro v hv;simp only[List.mem_cons,List.not_mem_nil,or_false]at hv;(first|(subst hv;rfl)|(rcases hv with rfl|rfl<;>rfl))));(case z2=>(unfold maxLen;omega));(case z3=>(show (m+1)*8<=140737488355328;omega));(case z4=>exact d2);intro sN2 cN2 wM2 h0 h5 h4;(have b7:Hid (BoxS B X1 o 114 w0 w9 (⟨B,22,.slice sN1 (m+1) cN1,m+1,h2++[.slice (some ⟨g,0,none⟩) n cf],1⟩::⟨B,3,.slice sN2 (m+1) cN2,m+1,ints pre++[.int .i64 p],1⟩::⟨B,3,.slice sL m cL,m,ints a9,1⟩::⟨B,22,.slice sR d cR,d,h3,1⟩::⟨B,135,.slice sU u cU,u,us,2⟩::⟨B,9,.slice sW m cW,m,yZ ws,1⟩::⟨B,3,.slice sB m cB,m,ints a8,1⟩::⟨B,3,.slice sS s cS,s,nats a6,1⟩::⟨B,22,.slice sG k cG,k,a7,1⟩::tl) #[.int .i64 (n:Int),.bool true,.slice sG k cG,.slice sN1 (m+1) cN1,.slice sP m cP,.slice sL m cL,.slice sR d cR,.slice sU u cU,.int .i64 (d:Int),.map (some mb),.slice sW m cW,.slice sB m cB,.slice sS s cS] wM2):=Kh (b1.out.appAt (j:=1) rfl h0 h5 h4));(have p2:=zG b7.out.box 4);simp only[List.getElem_toArray,List.getElem_cons_zero,List.getElem_cons_succ]at p2;(have f2:=zA b7.out.box 4);clear h0 h5 h4)|fail);obtain⟨wZ2,H2⟩:=Nm (wM2.setCell ⟨o,4,none⟩ (.slice sN2 (m+1) cN2));have b0:Hid (BoxS B X1 o 114 w0 w9 (⟨B,22,.slice sN1 (m+1) cN1,m+1,h2++[.slice (some ⟨g,0,none⟩) n cf],1⟩::⟨B,3,.slice sN2 (m+1) cN2,m+1,ints pre++[.int .i64 p],1⟩::⟨B,3,.slice sL m cL,m,ints a9,1⟩::⟨B,22,.slice sR d cR,d,h3,1⟩::⟨B,135,.slice sU u cU,u,us,2⟩::⟨B,9,.slice sW m cW,m,yZ ws,1⟩::⟨B,3,.slice sB m cB,m,ints a8,1⟩::⟨B,3,.slice sS s cS,s,nats a6,1⟩::⟨B,22,.slice sG k cG,k,a7,1⟩::tl) #[.int .i64 (n:Int),.bool true,.slice sG k cG,.slice sN1 (m+1) cN1,.slice sN2 (m+1) cN2,.slice sL m cL,.slice sR d cR,.slice sU u cU,.int .i64 (d:Int),.map (some mb),.slice sW m cW,.slice sB m cB,.slice sS s cS] wZ2):=Kh (by rw[H2];exact b7.out.set 4 (.slice sN2 (m+1) cN2));rw[<-H2];clear H2 q2 d9 d2 b7 p2 f2;have q3:=zG b0.out.box 5;simp only[List.getElem_toArray,List.getElem_cons_zero,List.getElem_cons_succ]at q3;have d8:=b0.out.own (r:=⟨B,3,.slice sL m cL,m,ints a9,1⟩) (by simp);have d1:=Nat.le_trans b0.out.base b0.out.wk;go_upto_region 6 with (first|(at_builtin;refine qX rfl _ _ _ rfl yJ.toN B (.slice sL m cL) (m) (ints a9) rfl d8 [.int .i64 x] rfl rfl ?z1 ?z2 ?z3 ?z4 ?_;(case z1=>(intro v hv;simp only[List.mem_cons,List.not_mem_nil,or_false]at hv;(first|(subst hv;rfl)|(rcases hv with rfl|rfl<;>rfl))));(case z2=>(unfold maxLen;omega));(case z3=>(show (m+1)*8<=140737488355328;omega));(case z4=>exact d1);intro sN3 cN3 wM3 h0 h5 h4;(have b6:Hid (BoxS B X1 o 114 w0 w9 (⟨B,22,.slice sN1 (m+1) cN1,m+1,h2++[.slice (some ⟨g,0,none⟩) n cf],1⟩::⟨B,3,.slice sN2 (m+1) cN2,m+1,ints pre++[.int .i64 p],1⟩::⟨B,3,.slice sN3 (m+1) cN3,m+1,ints a9++[.int .i64 x],1⟩::⟨B,22,.slice sR d cR,d,h3,1⟩::⟨B,135,.slice sU u cU,u,us,2⟩::⟨B,9,.slice sW m cW,m,yZ ws,1⟩::⟨B,3,.slice sB m cB,m,ints a8,1⟩::⟨B,3,.slice sS s cS,s,nats a6,1⟩::⟨B,22,.slice sG k cG,k,a7,1⟩::tl) #[.int .i64 (n:Int),.bool true,.slice sG k cG,.slice sN1 (m+1) cN1,.slice sN2 (m+1) cN2,.slice sL m cL,.slice sR d cR,.slice sU u cU,.int .i64 (d:Int),.map (some mb),.slice sW m cW,.slice sB m cB,.slice sS s cS] wM3):=Kh (b0.out.appAt (j:=2) rfl h0 h5 h4));(have p3:=zG b6.out.box 5);simp only[List.getElem_toArray,List.getElem_cons_zero,List.getElem_cons_succ]at p3;(have f3:=zA b6.out.box 5);clear h0 h5 h4)|fail);obtain⟨wZ3,H1⟩:=Nm (wM3.setCell ⟨o,5,none⟩ (.slice sN3 (m+1) cN3));have H9:Hid (BoxS B X1 o 114 w0 w9 (⟨B,22,.slice sN1 (m+1) cN1,m+1,h2++[.slice (some ⟨g,0,none⟩) n cf],1⟩::⟨B,3,.slice sN2 (m+1) cN2,m+1,ints pre++[.int .i64 p],1⟩::⟨B,3,.slice sN3 (m+1) cN3,m+1,ints a9++[.int .i64 x],1⟩::⟨B,22,.slice sR d cR,d,h3,1⟩::⟨B,135,.slice sU u cU,u,us,2⟩::⟨B,9,.slice sW m cW,m,yZ ws,1⟩::⟨B,3,.slice sB m cB,m,ints a8,1⟩::⟨B,3,.slice sS s cS,s,nats a6,1⟩::⟨B,22,.slice sG k cG,k,a7,1⟩::tl) #[.int .i64 (n:Int),.bool true,.slice sG k cG,.slice sN1 (m+1) cN1,.slice sN2 (m+1) cN2,.slice sN3 (m+1) cN3,.slice sR d cR,.slice sU u cU,.int .i64 (d:Int),.map (some mb),.slice sW m cW,.slice sB m cB,.slice sS s cS] wZ3):=Kh (by rw[H1];exact b6.out.set 5 (.slice sN3 (m+1) cN3));rw[<-H1];clear H1 q3 d8 d1 b6 p3 f3;have q4:=zG H9.out.box 10;simp only[List.getElem_toArray,List.getElem_cons_zero,List.getElem_cons_succ]at q4;have d7:=H9.out.own (r:=⟨B,9,.slice sW m cW,m,yZ ws,1⟩) (by simp);have d0:=Nat.le_trans H9.out.base H9.out.wk;go_upto_region 7 with (first|(at_builtin;refine qX rfl _ _ _ rfl pP.toN B (.slice sW m cW) (m) (yZ ws) rfl d7 [.string word] rfl rfl ?z1 ?z2 ?z3 ?z4 ?_;(case z1=>(intro v hv;simp only[List.mem_cons,List.not_mem_nil,or_false]at hv;(first|(subst hv;rfl)|(rcases hv with rfl|rfl<;>rfl))));(case z2=>(unfold maxLen;omega));(case z3=>(show (m+1)*16<=140737488355328;omega));(case z4=>exact d0);intro sN4 cN4 wM4 h0 h5 h4;(have b5:Hid (BoxS B X1 o 114 w0 w9 (⟨B,22,.slice sN1 (m+1) cN1,m+1,h2++[.slice (some ⟨g,0,none⟩) n cf],1⟩::⟨B,3,.slice sN2 (m+1) cN2,m+1,ints pre++[.int .i64 p],1⟩::⟨B,3,.slice sN3 (m+1) cN3,m+1,ints a9++[.int .i64 x],1⟩::⟨B,22,.slice sR d cR,d,h3,1⟩::⟨B,135,.slice sU u cU,u,us,2⟩::⟨B,9,.slice sN4 (m+1) cN4,m+1,yZ ws++[.string word],1⟩::⟨B,3,.slice sB m cB,m,ints a8,1⟩::⟨B,3,.slice sS s cS,s,nats a6,1⟩::⟨B,22,.slice sG k cG,k,a7,1⟩::tl) #[.int .i64 (n:Int),.bool true,.slice sG k cG,.slice sN1 (m+1) cN1,.slice sN2 (m+1) cN2,.slice sN3 (m+1) cN3,.slice sR d cR,.slice sU u cU,.int .i64 (d:Int),.map (some mb),.slice sW m cW,.slice sB m cB,.slice sS s cS] wM4):=Kh (H9.out.appAt (j:=5) rfl h0 h5 h4));(have p4:=zG b5.out.box 10);simp only[List.getElem_toArray,List.getElem_cons_zero,List.getElem_cons_succ]at p4;(have f4:=zA b5.out.box 10);clear h0 h5 h4)|fail);obtain⟨wZ4,H0⟩:=Nm (wM4.setCell ⟨o,10,none⟩ (.slice sN4 (m+1) cN4));have H8:Hid (BoxS B X1 o 114 w0 w9 (⟨B,22,.slice sN1 (m+1) cN1,m+1,h2++[.slice (some ⟨g,0,none⟩) n cf],1⟩::⟨B,3,.slice sN2 (m+1) cN2,m+1,ints pre++[.int .i64 p],1⟩::⟨B,3,.slice sN3 (m+1) cN3,m+1,ints a9++[.int .i64 x],1⟩::⟨B,22,.slice sR d cR,d,h3,1⟩::⟨B,135,.slice sU u cU,u,us,2⟩::⟨B,9,.slice sN4 (m+1) cN4,m+1,yZ ws++[.string word],1⟩::⟨B,3,.slice sB m cB,m,ints a8,1⟩::⟨B,3,.slice sS s cS,s,nats a6,1⟩::⟨B,22,.slice sG k cG,k,a7,1⟩::tl) #[.int .i64 (n:Int),.bool true,.slice sG k cG,.slice sN1 (m+1) cN1,.slice sN2 (m+1) cN2,.slice sN3 (m+1) cN3,.slice sR d cR,.slice sU u cU,.int .i64 (d:Int),.map (some mb),.slice sN4 (m+1) cN4,.slice sB m cB,.slice sS s cS] wZ4):=Kh (by rw[H0];exact b5.out.set 10 (.slice sN4 (m+1) cN4));rw[<-H0];clear H0 q4 d7 d0 b5 p4 f4;have q5:=zG H8.out.box 11;simp only[List.getElem_toArray,List.getElem_cons_zero,List.getElem_cons_succ]at q5;have d6:=H8.out.own (r:=⟨B,3,.slice sB m cB,m,ints a8,1⟩) (by simp);have c9:=Nat.le_trans H8.out.base H8.out.wk;go_upto_region 8 with (first|(at_builtin;refine qX rfl _ _ _ rfl yJ.toN B (.slice sB m cB) (m) (ints a8) rfl d6 [.int .i64 b] rfl rfl ?z1 ?z2 ?z3 ?z4 ?_;(case z1=>(intro v hv;simp only[List.mem_cons,List.not_mem_nil,or_false]at hv;(first|(subst hv;rfl)|(rcases hv with rfl|rfl<;>rfl))));(case z2=>(unfold maxLen;omega));(case z3=>(show (m+1)*8<=140737488355328;omega));(case z4=>exact c9);intro sN5 cN5 wM5 h0 h5 h4;(have b4:Hid (BoxS B X1 o 114 w0 w9 (⟨B,22,.slice sN1 (m+1) cN1,m+1,h2++[.slice (some ⟨g,0,none⟩) n cf],1⟩::⟨B,3,.slice sN2 (m+1) cN2,m+1,ints pre++[.int .i64 p],1⟩::⟨B,3,.slice sN3 (m+1) cN3,m+1,ints a9++[.int .i64 x],1⟩::⟨B,22,.slice sR d cR,d,h3,1⟩::⟨B,135,.slice sU u cU,u,us,2⟩::⟨B,9,.slice sN4 (m+1) cN4,m+1,yZ ws++[.string word],1⟩::⟨B,3,.slice sN5 (m+1) cN5,m+1,ints a8++[.int .i64 b],1⟩::⟨B,3,.slice sS s cS,s,nats a6,1⟩::⟨B,22,.slice sG k cG,k,a7,1⟩::tl) #[.int .i64 (n:Int),.bool true,.slice sG k cG,.slice sN1 (m+1) cN1,.slice sN2 (m+1) cN2,.slice sN3 (m+1) cN3,.slice sR d cR,.slice sU u cU,.int .i64 (d:Int),.map (some mb),.slice sN4 (m+1) cN4,.slice sB m cB,.slice sS s cS] wM5):=Kh (H8.out.appAt (j:=6) rfl h0 h5 h4));(have p5:=zG b4.out.box 11);simp only[List.getElem_toArray,List.getElem_cons_zero,List.getElem_cons_succ]at p5;(have f5:=zA b4.out.box 11);clear h0 h5 h4)|fail);obtain⟨wZ5,h9⟩:=Nm (wM5.setCell ⟨o,11,none⟩ (.slice sN5 (m+1) cN5));have i4:Hid (BoxS B X1 o 114 w0 w9 (⟨B,22,.slice sN1 (m+1) cN1,m+1,h2++[.slice (some ⟨g,0,none⟩) n cf],1⟩::⟨B,3,.slice sN2 (m+1) cN2,m+1,ints pre++[.int .i64 p],1⟩::⟨B,3,.slice sN3 (m+1) cN3,m+1,ints a9++[.int .i64 x],1⟩::⟨B,22,.slice sR d cR,d,h3,1⟩::⟨B,135,.slice sU u cU,u,us,2⟩::⟨B,9,.slice sN4 (m+1) cN4,m+1,yZ ws++[.string word],1⟩::⟨B,3,.slice sN5 (m+1) cN5,m+1,ints a8++[.int .i64 b],1⟩::⟨B,3,.slice sS s cS,s,nats a6,1⟩::⟨B,22,.slice sG k cG,k,a7,1⟩::tl) #[.int .i64 (n:Int),.bool true,.slice sG k cG,.slice sN1 (m+1) cN1,.slice sN2 (m+1) cN2,.slice sN3 (m+1) cN3,.slice sR d cR,.slice sU u cU,.int .i64 (d:Int),.map (some mb),.slice sN4 (m+1) cN4,.slice sN5 (m+1) cN5,.slice sS s cS] wZ5):=Kh (by rw[h9];exact b4.out.set 11 (.slice sN5 (m+1) cN5));rw[<-h9];clear h9 q5 d6 c9 b4 p5 f5;go_wp2;go_ret;obtain⟨i1,i0,g9,e3,g8,g7,g6,g5⟩:=HL.out;have H7:=i4.out;have d4:∀q,X q->X1 q:=fun q hq=>by rw[f7.out];exact .inl hq
 have h7:=i6.out.trans (H7.less d4).kept;have b2:=Nat.le_trans c6.out H7.wk;have i3:xW X 3 nats wZ5 (h2++[.slice (some ⟨g,0,none⟩) n cf]) (a5++[f]):=(j0.out.kept h7 b2).snoc (i9.out.kept h7 b2);refine⟨rfl,⟨X,mb,u,us,h2++[.slice (some ⟨g,0,none⟩) n cf],h3,ws++[word],sN1,sN2,sN3,sR,sU,sN4,sN5,sS,cN1,cN2,cN3,cR,cU,cN4,cN5,cS,?_,i3,i5.out.kept h7 b2,i8.out.kept h7 b2,?_,H6,e2,?_,?_,?_,hu⟩,H7.grown⟩
 ·have:=(H7.less d4).rebase
  rw[show ints pre++[.int .i64 p]=ints (pre++[p]) by simp[ints],show ints a9++[.int .i64 x]=ints (a9++[x]) by simp[ints],show ints a8++[.int .i64 b]=ints (a8++[b]) by simp[ints],show yZ ws++[.string word]=yZ (ws++[word]) from (bW ws word).symm]at this;exact this
 ·exact⟨_,c7.out.of_block (H7.kept mb (by rw[f7.out];exact .inr rfl))⟩
 ·exact⟨by simp[i1],by simp[i0],by simp[g9],by simp[e3],by simp[g8],g7,g6,g5⟩
 ·intro q hq
  rcases List.mem_append.1 hq with hq|hq
  ·exact i7.out q hq
  rw[List.mem_singleton]at hq;subst hq;exact HF.out
 exact dY e3 HW.out a1
section
variable {X:Nat->Prop} {B o ty:Nat} {w0 wk w w':World} {rs:List RowS} {c:Array Value}
theorem BoxS.retire {r:RowS}(h:BoxS B X o ty w0 wk (rs++[r]) c w):BoxS B (fun k=>X k\/r.v.ownBlock=some k) o ty w0 w rs c w :=
 ⟨h.mem.retire,fun s hs=>h.typ s (List.mem_append_left _ hs),h.box,fun e=>by
  rcases e with e|e
  ·exact h.off e
  ·exact absurd e (zS (h.mem.own r (by simp)) h.box (h.typ r (by simp)).2),h.size,h.old,Nat.le_trans h.base h.wk,h.grown,xX.refl _ _,Nat.le_refl _⟩
end
section
variable {w0 w w':World} {B o n k m d s ub:Nat} {sG:Option Addr} {cG:Nat} {hsG:List Value} {gs els right:List (List Nat)} {pre las beh:List Int} {sgl:List Nat} {tl:List RowS}
theorem RunS.grow (h:RunS w0 B o n k m d s ub sG cG hsG gs els pre las right beh sgl tl w)(hg:w.grownBy w' none):RunS w0 B o n k m d s ub sG cG hsG gs els pre las right beh sgl tl w':=by
 obtain⟨X,mb,u,us,h2,h1,ws,sE,sP,sL,sR,sU,sW,sB,sS,cE,cP,cL,cR,cU,cW,cB,cS,hB,hE,hR,hG,⟨c,hM⟩,h3,h4,hl,h5,hw,hu⟩:=h;have h0:=hB.mem.keep hg;exact⟨X,mb,u,us,h2,h1,ws,sE,sP,sL,sR,sU,sW,sB,sS,cE,cP,cL,cR,cU,cW,cB,cS,(hB.grow hg).rebase,hE.kept h0 hg.size,hR.kept h0 hg.size,hG.kept h0 hg.size,⟨c,hM.kept hg (by simp)⟩,h3,h4,hl,h5,hw,hu⟩
theorem RunS.ubm (h:RunS w0 B o n k m d s ub sG cG hsG gs els pre las right beh sgl tl w){a9:Nat}(a8:ub<=a9):RunS w0 B o n k m d s a9 sG cG hsG gs els pre las right beh sgl tl w:=by
 obtain⟨X,mb,u,us,h1,h0,ws,sE,sP,sL,sR,sU,sW,sB,sS,cE,cP,cL,cR,cU,cW,cB,cS,hB,hE,hR,hG,⟨c,hM⟩,h2,h3,hl,h4,hw,hu⟩:=h;exact⟨X,mb,u,us,h1,h0,ws,sE,sP,sL,sR,sU,sW,sB,sS,cE,cP,cL,cR,cU,cW,cB,cS,hB,hE,hR,hG,⟨c,hM⟩,h2,h3,hl,h4,hw,Nat.le_trans hu a8⟩
theorem RunS.facts (h:RunS w0 B o n k m d s ub sG cG hsG gs els pre las right beh sgl tl w):w0.grownBy w none/\B<=w.heap.size/\w0.heap.size<=B/\w0.heap.size<=o/\o<w.heap.size:=by
 obtain⟨X,mb,u,us,h1,h0,ws,sE,sP,sL,sR,sU,sW,sB,sS,cE,cP,cL,cR,cU,cW,cB,cS,hB,hE,hR,hG,⟨c,hM⟩,h2,h3,hl,h4,hw,hu⟩:=h;exact⟨hB.grown,Nat.le_trans hB.base hB.wk,hB.size,hB.old,zQ hB.box⟩
theorem RunS.addRow (h:RunS w0 B o n k m d s ub sG cG hsG gs els pre las right beh sgl [] w)(hg:w.grownBy w' none){e sz q:Nat}{v:Value}{xs:List Value}(ho:w'.ownsRow w.heap.size e sz v q xs)(he:e≠114):RunS w0 B o n k m d s ub sG cG hsG gs els pre las right beh sgl (⟨B,e,v,q,xs,sz⟩::[]) w':=by
 obtain⟨X,mb,u,us,h2,h1,ws,sE,sP,sL,sR,sU,sW,sB,sS,cE,cP,cL,cR,cU,cW,cB,cS,hB,hE,hR,hG,⟨c,hM⟩,h3,h4,hl,h5,hw,hu⟩:=h;have h0:=hB.mem.keep hg;exact⟨X,mb,u,us,h2,h1,ws,sE,sP,sL,sR,sU,sW,sB,sS,cE,cP,cL,cR,cU,cW,cB,cS,(hB.add hg ho he).rebase,hE.kept h0 hg.size,hR.kept h0 hg.size,hG.kept h0 hg.size,⟨c,hM.kept hg (by simp)⟩,h3,h4,hl,h5,hw,hu⟩
theorem RunS.arr {e rb q cap:Nat}{xs:List Value}(h:RunS w0 B o n k m d s ub sG cG hsG gs els pre las right beh sgl (⟨B,e,.slice (some ⟨rb,0,none⟩) q cap,q,xs,1⟩::[]) w):Arr w rb e xs:=by
 obtain⟨X,mb,u,us,h1,h0,ws,sE,sP,sL,sR,sU,sW,sB,sS,cE,cP,cL,cR,cU,cW,cB,cS,hB,hE,hR,hG,⟨c,hM⟩,h2,h3,hl,h4,hw,hu⟩:=h;exact Arr.of_owns (hB.own (r:=⟨B,e,.slice (some ⟨rb,0,none⟩) q cap,q,xs,1⟩) (by simp))
theorem kD (l:List Nat)(i c:Nat):(nats l).set i (.int .i64 (c:Int))=nats (l.set i c):=by simp[nats,List.map_set]
theorem RunS.put {e rb q cap i:Nat}{xs:List Value}(h:RunS w0 B o n k m d s ub sG cG hsG gs els pre las right beh sgl (⟨B,e,.slice (some ⟨rb,0,none⟩) q cap,q,xs,1⟩::[]) w)(hi:i<q)(y:Value):RunS w0 B o n k m d s ub sG cG hsG gs els pre las right beh sgl (⟨B,e,.slice (some ⟨rb,0,none⟩) q cap,q,xs.set i y,1⟩::[]) (w.setCell ⟨rb,i,none⟩ y):=by
 obtain⟨X,mb,u,us,h3,h2,ws,sE,sP,sL,sR,sU,sW,sB,sS,cE,cP,cL,cR,cU,cW,cB,cS,hB,hE,hR,hG,⟨c,hM⟩,h5,h6,hl,h7,hw,hu⟩:=h;have hP:=hB.put (j:=9) rfl hi y;have h1:=hP.kept;have h0:=hP.wk
 have h4:rb≠mb:=fun e1=>by
  subst e1;exact uU (es:=#[]) (clock:=0) (hB.own (r:=⟨B,e,.slice (some ⟨rb,0,none⟩) q cap,q,xs,1⟩) (by simp)) hM.obj rfl
 exact⟨X,mb,u,us,h3,h2,ws,sE,sP,sL,sR,sU,sW,sB,sS,cE,cP,cL,cR,cU,cW,cB,cS,hP.rebase,hE.kept h1 h0,hR.kept h1 h0,hG.kept h1 h0,⟨c,hM.kept (zF w ⟨rb,i,none⟩ y) (fun e=>h4 (Oj e))⟩,h5,h6,hl,h7,hw,hu⟩
end
end Go.Proofs.Ytobakifdllameaa
namespace Go.Proofs
open Go.Shelf
def Try.lays111_ren:Go.Shelf.Ren:=⟨fun|111=>54|n=>n,fun|28=>22|3=>3|4=>4|0=>0|n=>n,fun|n=>n⟩
theorem Try.lays111:Go.Proofs.Lays.n111 Try.prog Try.lays111_ren:={
 mixed:=by kernel_rfl
 f111:=Try.func54.trans (congrArg some (by kernel_rfl))
 t0:=Try.underlying0
 a0:=Try.isAgg0
 z0:=Try.sizeOf0
 v0:=Try.zeroValue0
 t3:=Try.underlying3
 a3:=Try.isAgg3
 z3:=Try.sizeOf3
 v3:=Try.zeroValue3
 t4:=Try.underlying4
 a4:=Try.isAgg4
 z4:=Try.sizeOf4
 v4:=Try.zeroValue4
 t28:=Try.underlying22
 a28:=Try.isAgg22
 z28:=Try.sizeOf22
 v28:=Try.zeroValue22 }
open Go.RowKit Go.Lib in
theorem Try.slices_Equal_int (b1 o1 n c b2 o2 m d:Nat)(xs ys:List Int)(w:World)(hx:n<=xs.length)(hy:m<=ys.length)(a8:n<=9223372036854775807)(a9:m<=9223372036854775807)(a6:∀j,j<xs.length->w.cell? ⟨b1,o1+j,none⟩=some (.int .i64 (xs.getD j 0)))(a7:∀j,j<ys.length->w.cell? ⟨b2,o2+j,none⟩=some (.int .i64 (ys.getD j 0))):
  Calls Try.prog 54 #[.slice (some ⟨b1,o1,none⟩) n c,.slice (some ⟨b2,o2,none⟩) m d] w fun e w'=>e=.returned (.bool (xs.take n == ys.take m))/\∃q,w'=w.drewN q:=Any.slices_Equal_int Try.lays111 b1 o1 n c b2 o2 m d xs ys w hx hy a8 a9 a6 a7
def Try.lays193_ren:Go.Shelf.Ren:=⟨fun|193=>55|n=>n,fun|31=>42|9=>9|4=>4|3=>3|0=>0|n=>n,fun|n=>n⟩
theorem Try.lays193:Go.Proofs.Lays.n193 Try.prog Try.lays193_ren:={
 mixed:=by kernel_rfl
 f193:=Try.func55.trans (congrArg some (by kernel_rfl))
 t0:=Try.underlying0
 a0:=Try.isAgg0
 z0:=Try.sizeOf0
 v0:=Try.zeroValue0
 t3:=Try.underlying3
 a3:=Try.isAgg3
 z3:=Try.sizeOf3
 v3:=Try.zeroValue3
 t4:=Try.underlying4
 a4:=Try.isAgg4
 z4:=Try.sizeOf4
 v4:=Try.zeroValue4
 t9:=Try.underlying9
 a9:=Try.isAgg9
 z9:=Try.sizeOf9
 v9:=Try.zeroValue9
 t31:=Try.underlying42
 a31:=Try.isAgg42
 z31:=Try.sizeOf42
 v31:=Try.zeroValue42 }
open Go.RowKit Go.Lib in
theorem Try.slices_Equal_string (b1 o1 n c b2 o2 m d:Nat)(xs ys:List ByteArray)(w:World)(hx:n<=xs.length)(hy:m<=ys.length)(a8:n<=9223372036854775807)(a9:m<=9223372036854775807)(a6:∀j,j<xs.length->w.cell? ⟨b1,o1+j,none⟩=some (.string (xs.getD j ByteArray.empty)))(a7:∀j,j<ys.length->w.cell? ⟨b2,o2+j,none⟩=some (.string (ys.getD j ByteArray.empty))):
  Calls Try.prog 55 #[.slice (some ⟨b1,o1,none⟩) n c,.slice (some ⟨b2,o2,none⟩) m d] w fun e w'=>e=.returned (.bool (decide (xs.take n=ys.take m)))/\∃q,w'=w.drewN q:=Any.slices_Equal_string Try.lays193 b1 o1 n c b2 o2 m d xs ys w hx hy a8 a9 a6 a7
def Try.laysNm215_ren:Go.Shelf.Ren:=⟨fun|15=>49|n=>n,fun|22=>22|3=>3|4=>4|n=>n,fun|n=>n⟩
theorem Try.laysNm215:Go.Proofs.Lays2.n15 Try.prog Try.laysNm215_ren:={
 mixed:=by kernel_rfl
 f15:=Try.func49.trans (congrArg some (by kernel_rfl))
 t3:=Try.underlying3
 a3:=Try.isAgg3
 z3:=Try.sizeOf3
 v3:=Try.zeroValue3
 t4:=Try.underlying4
 a4:=Try.isAgg4
 z4:=Try.sizeOf4
 v4:=Try.zeroValue4
 t22:=Try.underlying22
 a22:=Try.isAgg22
 z22:=Try.sizeOf22
 v22:=Try.zeroValue22
 i3:=by kernel_rfl }
open Go.RowKit Go.Lib in
theorem Try.slices_Clone_int (b off n c:Nat)(zs:List Int)(w:World)(hz:n<=zs.length)(a9:n*8<=140737488355328)(hc:∀j,j<zs.length->w.cell? ⟨b,off+j,none⟩=some (.int .i64 (zs.getD j 0))):
  Calls Try.prog 49 #[.slice (some ⟨b,off,none⟩) n c] w fun e w'=>∃v',e=.returned v'/\w'.ownsRow w.heap.size 3 1 v' n ((zs.take n).map (Value.int .i64))/\v'≠.slice none 0 0/\Below w.heap.size w w':=Any.slices_Clone_int Try.laysNm215 b off n c zs w hz a9 hc
open Go.RowKit Go.Lib in
theorem Try.slices_Equal_int_lens (a1 a2:Option Addr)(n c m d:Nat)(w:World)(a9:n≠m):
  Calls Try.prog 54 #[.slice a1 n c,.slice a2 m d] w fun e w'=>e=.returned (.bool false)/\w'=w:=Any.slices_Equal_int_lens Try.lays111 a1 a2 n c m d w a9
open Go.RowKit Go.Lib in
theorem Try.slices_Equal_string_lens (a1 a2:Option Addr)(n c m d:Nat)(w:World)(a9:n≠m):
  Calls Try.prog 55 #[.slice a1 n c,.slice a2 m d] w fun e w'=>e=.returned (.bool false)/\w'=w:=Any.slices_Equal_string_lens Try.lays193 a1 a2 n c m d w a9
def Try.laysSlE33_f56_ren:Go.Shelf.Ren:=⟨fun|33=>56|n=>n,fun|22=>26|23=>4|4=>4|3=>3|0=>0|n=>n,fun|n=>n⟩
theorem Try.laysSlE33_f56:Go.Proofs.SlLaysE.n33 Try.prog Try.laysSlE33_f56_ren:={
 mixed:=by kernel_rfl
 f33:=⟨Try.f56.name,by decide,Try.func56.trans (congrArg some (by kernel_rfl))⟩
 t0:=Try.underlying0
 a0:=Try.isAgg0
 z0:=Try.sizeOf0
 v0:=Try.zeroValue0
 t3:=Try.underlying3
 a3:=Try.isAgg3
 z3:=Try.sizeOf3
 v3:=Try.zeroValue3
 t4:=Try.underlying4
 a4:=Try.isAgg4
 z4:=Try.sizeOf4
 v4:=Try.zeroValue4
 t22:=Try.underlying26
 a22:=Try.isAgg26
 z22:=Try.sizeOf26
 v22:=Try.zeroValue26
 a23:=Try.isAgg4
 z23:=Try.sizeOf4 }
open Go.RowKit Go.Lib in
theorem Try.slices_Equal_f56 {α:Type}[Inhabited α](enc:α->Value)(eq:α->α->Bool)(a7:NeqAt Try.prog 4 enc eq)(b1 o1 n c b2 o2 m d:Nat)(xs ys:List α)(w:World)(hx:n<=xs.length)(hy:m<=ys.length)(a8:n<=9223372036854775807)(a9:m<=9223372036854775807)(a5:∀j,j<xs.length->w.cell? ⟨b1,o1+j,none⟩=some (enc xs[j]!))(a6:∀j,j<ys.length->w.cell? ⟨b2,o2+j,none⟩=some (enc ys[j]!)):
  Calls Try.prog 56 #[.slice (some ⟨b1,o1,none⟩) n c,.slice (some ⟨b2,o2,none⟩) m d] w fun e w'=>e=.returned (.bool (Lib.allEq eq (xs.take n) (ys.take m)))/\∃q,w'=w.drewN q:=AnyE.slices_Equal Try.laysSlE33_f56 enc eq a7 b1 o1 n c b2 o2 m d xs ys w hx hy a8 a9 a5 a6
def Try.laysSlH10_f100_ren:Go.Shelf.Ren:=⟨fun|10=>100|6=>109|n=>n,fun|22=>22|23=>3|25=>81|3=>3|4=>4|0=>0|n=>n,fun|n=>n⟩
theorem Try.laysSlH10_f100:Go.Proofs.SlLaysH.n10 Try.prog Try.laysSlH10_f100_ren:={
 mixed:=by kernel_rfl
 f6:=⟨Try.f109.name,by decide,Try.func109.trans (congrArg some (by kernel_rfl))⟩
 f10:=⟨Try.f100.name,by decide,Try.func100.trans (congrArg some (by kernel_rfl))⟩
 t0:=Try.underlying0
 a0:=Try.isAgg0
 z0:=Try.sizeOf0
 v0:=Try.zeroValue0
 t3:=Try.underlying3
 a3:=Try.isAgg3
 z3:=Try.sizeOf3
 v3:=Try.zeroValue3
 t4:=Try.underlying4
 a4:=Try.isAgg4
 z4:=Try.sizeOf4
 v4:=Try.zeroValue4
 t22:=Try.underlying22
 a22:=Try.isAgg22
 z22:=Try.sizeOf22
 v22:=Try.zeroValue22
 a23:=Try.isAgg3
 z23:=Try.sizeOf3
 t25:=Try.underlying81
 a25:=Try.isAgg81
 z25:=Try.sizeOf81
 v25:=Try.zeroValue81 }
open Go.RowKit Go.Lib Go.Sort in
theorem Try.slices_DeleteFunc {α:Type}[Inhabited α](enc:α->Value)(hO:OneCell enc)(p:α->Bool)(g:Nat)(lb:Array Value)(eg:∀args w,(callFunc g args).run Try.prog w=.ok (.enter g args) w)(zr:α)(a8:∀w,(zeroValue 3).run Try.prog w=.ok (enc zr) w)(blk off cap:Nat)(d:Array α)(w:World)(hp:PredAt Try.prog g lb enc p w)(a6:PredOver Try.prog g lb enc p blk off d.size w)(hH:Holds enc w blk off d)(a7:d.size<=9223372036854775807)(a9:d.size<=cap):
  Calls Try.prog 100 #[.slice (some ⟨blk,off,none⟩) d.size cap,.func (.func g) #[] lb] w fun e w'=>e=.returned (.slice (some ⟨blk,off,none⟩) (d.toList.filter fun x=>!p x).length cap)/\∃q,w'=putRow enc (Sort.ahead w q) blk off ((d.toList.filter fun x=>!p x)++List.replicate (d.size-(d.toList.filter fun x=>!p x).length) zr).toArray:=AnyE.slices_DeleteFunc Try.laysSlH10_f100 enc hO p g lb eg zr a8 blk off cap d w hp a6 hH a7 a9
end Go.Proofs
namespace Go.Proofs.Ytobakifdllameaa
open Go.Maps Go.RowKit
theorem qSL (l:List Nat):(l.map fun(x:Nat)=>(x:Int)).map (Value.int .i64)=nats l:=by simp[nats]
theorem iX (B:Nat)(w:World)(v:Value)(f:List Nat)(h:Row B w v (nats f))(h1:1<=f.length)(hb:f.length<=1000000):Calls Try.prog 49 #[v] w fun e w'=>∃g c,e=.returned (.slice (some ⟨g,0,none⟩) f.length c)/\w.heap.size<=g/\f.length<=c/\c<=maxLen/\w'.ownsRow w.heap.size 3 1 (.slice (some ⟨g,0,none⟩) f.length c) f.length (nats f)/\w.grownBy w' none:=by
 obtain⟨b,off,cap,rfl,_,h9,h8,h6⟩:=h.some_ (by rw[zR];omega);rw[zR];refine(Try.slices_Clone_int b off f.length cap (f.map fun(x:Nat)=>(x:Int)) w (by simp) (by omega) (fun j hj=>?_)).mono ?_
 ·have h5:j<f.length:=by simpa using hj
  rw[h6.nat j h5];simp[List.getD,h5]
 rintro e w' ⟨v',rfl,h0,h7,h4⟩;rw[show ((f.map fun(x:Nat)=>(x:Int)).take f.length).map (Value.int .i64)=nats f by rw[List.take_of_length_le (by simp),qSL]]at h0;obtain⟨sa,sc,rfl⟩:=pB h0;obtain⟨g,rfl,h2,h3,_⟩:=xI h0 (by omega);exact⟨g,sc,rfl,(h0.lt g rfl).1,h2,h3,h0,kW h4⟩
end Go.Proofs.Ytobakifdllameaa
namespace Go.Proofs.Ytobakifdllameaa
def qCU (n:Nat):Code->Option Code
 | .block i c=>if i=n then some c else qCU n c
 | .seq a b=>match qCU n a with
  | some c=>some c
  | none=>qCU n b
 | .cond _ a b=>match qCU n a with
  | some c=>some c
  | none=>qCU n b
 | .loop c=>qCU n c
 | .scope c=>qCU n c
 | _=>none
noncomputable def blk (f:Func)(n:Nat):Code:=(f.body.bind (qCU n)).getD .skip
def qCT (n:Nat):Code->Option Code
 | .region i o d=>if i=n then some (.region i o d) else none
 | .block _ c=>qCT n c
 | .seq a b=>match qCT n a with
  | some c=>some c
  | none=>qCT n b
 | .cond _ a b=>match qCT n a with
  | some c=>some c
  | none=>qCT n b
 | .loop c=>qCT n c
 | .scope c=>qCT n c
 | _=>none
noncomputable def reg (f:Func)(n:Nat):Code:=(f.body.bind (qCT n)).getD .skip
open Go.Maps Go.RowKit
theorem qNP:numE []=fun _=>none:=by funext f;simp[numE]
theorem RunS.init {w w2:World}{mb o n:Nat}(hm:MapK 9 (IsT n) (fun f=>.string (txtT f)) w2 mb 0 0 (fun _=>none))(hb:w2.heap[o]?=some (.cells #[.int .i64 (n:Int),.bool true,.slice none 0 0,.slice none 0 0,.slice none 0 0,.slice none 0 0,.slice none 0 0,.slice none 0 0,.int .i64 ((0:Nat):Int),.map (some mb),.slice none 0 0,.slice none 0 0,.slice none 0 0] 114 (0,0)))(h1:w.heap.size<=mb)(h2:w.heap.size<=o)(hg:w.grownBy w2 none):RunS w w.heap.size o n 0 0 0 0 0 none 0 [] [] [] [] [] [] [] [] [] w2:=by
 have h0:∀r∈(⟨w.heap.size,22,.slice none 0 0,0,[],1⟩::⟨w.heap.size,3,.slice none 0 0,0,ints [],1⟩::⟨w.heap.size,3,.slice none 0 0,0,ints [],1⟩::⟨w.heap.size,22,.slice none 0 0,0,[],1⟩::⟨w.heap.size,135,.slice none 0 0,0,[],2⟩::⟨w.heap.size,9,.slice none 0 0,0,yZ [],1⟩::⟨w.heap.size,3,.slice none 0 0,0,ints [],1⟩::⟨w.heap.size,3,.slice none 0 0,0,nats [],1⟩::⟨w.heap.size,22,.slice none 0 0,0,[],1⟩::([]:List RowS)),
   r.v=.slice none 0 0/\r.n=0/\r.xs=[]/\r.base=w.heap.size/\r.e≠114:=by
  intro r hr;simp only[List.mem_cons,List.not_mem_nil,or_false]at hr;rcases hr with rfl|rfl|rfl|rfl|rfl|rfl|rfl|rfl|rfl<;>exact⟨rfl,rfl,rfl,rfl,by simp⟩
 refine⟨fun _=>False,mb,0,[],[],[],[],none,none,none,none,none,none,none,none,0,0,0,0,0,0,0,0,⟨⟨fun r hr=>?_,?_,fun r hr k hk=>?_,fun k hk=>hk.elim⟩,fun r hr=>?_,hb,fun h=>h,Nat.le_refl _,h2,hg.size,hg,xX.refl _ _,Nat.le_refl _⟩,xW.nil,xW.nil,xW.nil,⟨0,by rw[qNP];exact hm⟩,fun h=>h,h1,⟨rfl,rfl,rfl,rfl,rfl,rfl,rfl,rfl⟩,fun f hf=>by simp at hf,fun i=>by rw[List.getD_nil];exact Nat.zero_le i,Nat.le_refl _⟩
 ·obtain⟨e1,e2,e3,_,_⟩:=h0 r hr
  rw[e1,e2,e3];exact World.ownsRow_nil _ _ _ _
 ·rw[List.pairwise_iff_getElem]
  intro i j hi hj _ k hk;rw[(h0 _ (List.getElem_mem hi)).1]at hk;simp[Value.ownBlock]at hk
 ·rw[(h0 r hr).1]at hk
  simp[Value.ownBlock]at hk
 exact⟨(h0 r hr).2.2.2.1,(h0 r hr).2.2.2.2⟩
theorem qQZ {Q:Exit->Act->World->Prop}{v0 v1 v2 v3 v4 v5 v7 v9 o8 o9 n0 n1 n2 n3 n4 n5 n6 n7 n8 n9 m0 m1 m2 m3 m4 m5 m6 m7 m8 m9 l0 l1 l2 l3 l4 l5 l6 l7 l8 l9 k0 k1 k2 k3 k4 k5 k6 k7 k8 k9 j0 j1 j2 j3 j4 j5 p3 p4 p5 p6 p7 p8 p9 o0 o1 o2 o3 o4 o5 j6 j7 j8 j9 i0 i1 i2 i3 i4 i5 i6 i7 i8 i9 g0 g1 g2 g3 g4 g5 g6 g7 g9 f0 f1 f3 f4 f5 f6 f8 f9 e0 e1 e2 e3 e4 e5 e6 e7 e8 e9 d0 d1 d2 d3 d4 d5 d6 d7 d8 d9 c0 c1 c2 c3 c4 c5 c6 c7 c9 b0 b1 b2 b3 b4 b5 b6 b7 b8 b9 a0 a1 a2 a3 a4 a5:Value}{gv:Value}{w0 w:World}{B C o n k m d s ub:Nat}{sG:Option Addr}{cG:Nat}{a9:List Value}{gs o6 right:List (List Nat)}{pre a7 a6:List Int}{a8:List Nat}{tl:List RowS}{g:List Nat}(h:RunS w0 B o n k m d s ub sG cG a9 gs o6 pre a7 right a6 a8 tl w)(hk:k<=100)(hg:IsT n g)(h1:1<=n)(p2:n<=32)(hC:C<=w0.heap.size)(o7:Row C w gv (nats g))(f7:∀(z58 z59 z60 z61 z62 z63 z64 z65 z66 z67 z68 z69 z70:Value) (w':World) (sG':Option Addr) (cG':Nat) (x:Value),RunS w0 B o n (k+1) m d s ub sG' cG' (a9++[x]) (gs++[g]) o6 pre a7 right a6 a8 tl w'->w.heap.size<=w'.heap.size->Q .normal ⟨(v0::v1::v2::v3::v4::v5::(Value.pointer (some ⟨o,0,none⟩))::v7::gv::v9::o8::o9::n0::n1::n2::n3::n4::n5::n6::n7::n8::n9::m0::m1::m2::m3::m4::m5::m6::m7::m8::m9::l0::l1::l2::l3::l4::l5::l6::l7::l8::l9::k0::k1::k2::k3::k4::k5::k6::k7::k8::k9::j0::j1::j2::j3::j4::j5::z58::z59::z60::z61::z62::z63::z64::z65::z66::z67::z68::z69::z70::j6::j7::j8::j9::i0::i1::i2::i3::i4::i5::i6::i7::i8::i9::g0::g1::g2::g3::g4::g5::g6::g7::g9::f0::f1::f3::f4::f5::f6::f8::f9::e0::e1::e2::e3::e4::e5::e6::e7::e8::e9::d0::d1::d2::d3::d4::d5::d6::d7::d8::d9::c0::c1::c2::c3::c4::c5::c6::c7::c9::b0::b1::b2::b3::b4::b5::b6::b7::b8::b9::a0::a1::a2::a3::a4::a5::[]).toArray,[]⟩ w'):Code.wp Try.prog (reg Try.f70 10) Q ⟨(v0::v1::v2::v3::v4::v5::(Value.pointer (some ⟨o,0,none⟩))::v7::gv::v9::o8::o9::n0::n1::n2::n3::n4::n5::n6::n7::n8::n9::m0::m1::m2::m3::m4::m5::m6::m7::m8::m9::l0::l1::l2::l3::l4::l5::l6::l7::l8::l9::k0::k1::k2::k3::k4::k5::k6::k7::k8::k9::j0::j1::j2::j3::j4::j5::p3::p4::p5::p6::p7::p8::p9::o0::o1::o2::o3::o4::o5::j6::j7::j8::j9::i0::i1::i2::i3::i4::i5::i6::i7::i8::i9::g0::g1::g2::g3::g4::g5::g6::g7::g9::f0::f1::f3::f4::f5::f6::f8::f9::e0::e1::e2::e3::e4::e5::e6::e7::e8::e9::d0::d1::d2::d3::d4::d5::d6::d7::d8::d9::c0::c1::c2::c3::c4::c5::c6::c7::c9::b0::b1::b2::b3::b4::b5::b6::b7::b8::b9::a0::a1::a2::a3::a4::a5::[]).toArray,[]⟩ w:=by
 have q0:=h.facts.1;have t9:C<=w.heap.size:=Nat.le_trans hC q0.size;obtain⟨X,mb,u,us,h4,h3,ws,sE,sP,sL,sR,sU,sW,sB,sS,cE,cP,cL,cR,cU,cW,cB,cS,hB,hE,hR,hG,⟨c,hM⟩,s2,s5,hl,r4,hw,hu⟩:=h
 have H9:o≠mb:=fun e=>by
  obtain⟨es,clock,hb⟩:=hM.obj;have:=hB.box;rw[e,hb]at this;simp at this
 have s3:=hM.lt;have q3:=hB.stand s3 (fun r hr=>uU (es:=#[]) (clock:=0) (hB.mem.own r hr) hM.obj) H9;obtain⟨X1,q1⟩:∃X1:Nat->Prop,X1=fun q=>X q\/q=mb:=⟨_,rfl⟩;rw[<-q1]at q3;have HS:=Kh q3;have q4:=Kh q1
 have q6:Hid (∀W:World,w.grownBy W none->W.cell? ⟨o,2,none⟩=some (.slice sG k cG)):=Kh (fun W hg=>by
  have hb:=(HS.out.grow hg).box;have q2:=zG hb 2;simp only[List.getElem_toArray,List.getElem_cons_zero,List.getElem_cons_succ]at q2
  exact q2)
 obtain⟨HE,HR,HG,HM,HL,t7⟩:=K6 hE hR hG hM hl r4;have HW:=Kh hw;have x1:=Kh hg
 have s1:Hid (∀W:World,w.grownBy W none->Calls Try.prog 49 #[gv] W fun e w'=>∃g8 c8,e=.returned (.slice (some ⟨g8,0,none⟩) n c8)/\W.heap.size<=g8/\n<=c8/\c8<=maxLen/\w'.ownsRow W.heap.size 3 1 (.slice (some ⟨g8,0,none⟩) n c8) n (nats g)/\W.grownBy w' none):=Kh (fun W hgW=>by
  have:=iX C W gv g (o7.kept hgW (by simp)) (by rw[hg.1];exact h1) (by rw[hg.1];omega)
  rw[hg.1]at this;exact this)
 clear hB hE hR hG hM hl r4 hw q3 q1 hg o7
 conv=>arg 2;whnf
 obtain⟨w7,H8⟩:=Nm w.drew;have r7:w.grownBy w7 none:=by rw[H8];exact zU w none
 have t5:=Kh H8;have h8:=Kh r7;clear H8 r7;refine wp_region_noPanic ?_;refine yN (G:=wF 13 (fun _=>True) (fun W=>W.cell? ⟨o,2,none⟩=some (.slice sG k cG))) (by kernel_rfl) ?_;rw[<-t5.out];have q5:Hid (BoxS B X1 o 114 w0 w (⟨B,22,.slice sE m cE,m,h4,1⟩::⟨B,3,.slice sP m cP,m,ints pre,1⟩::⟨B,3,.slice sL m cL,m,ints a7,1⟩::⟨B,22,.slice sR d cR,d,h3,1⟩::⟨B,135,.slice sU u cU,u,us,2⟩::⟨B,9,.slice sW m cW,m,yZ ws,1⟩::⟨B,3,.slice sB m cB,m,ints a6,1⟩::⟨B,3,.slice sS s cS,s,nats a8,1⟩::⟨B,22,.slice sG k cG,k,a9,1⟩::tl) #[.int .i64 (n:Int),.bool true,.slice sG k cG,.slice sE m cE,.slice sP m cP,.slice sL m cL,.slice sR d cR,.slice sU u cU,.int .i64 (d:Int),.map (some mb),.slice sW m cW,.slice sB m cB,.slice sS s cS] w7):=Kh (HS.out.grow h8.out);have C:=Kh (q6.out w7 h8.out);refine zO 0 ⟨trivial,fun _=>C.out⟩ ?_;refine zO 1 ⟨trivial,fun _=>C.out⟩ ?_;refine zO 2 ⟨trivial,fun _=>C.out⟩ ?_;refine zO 3 ⟨trivial,fun _=>C.out⟩ ?_;refine zO 4 ⟨trivial,fun _=>C.out⟩ ?_;refine xD 5 ⟨trivial,fun _=>C.out⟩ ?_;refine zO 6 ⟨trivial,fun _=>C.out⟩ ?_;refine oneG (i:=7) (by kernel_rfl) rfl (fun K hK=>?_);go_simp
 go_at_call 49
 refine(s1.out w7 h8.out).mono ?_;rintro e w8 ⟨g8,c8,rfl,h6,t8,x0,h0,H2⟩;have p0:=(h0.lt g8 rfl).2;have H6:=Kh (zC h8.out H2);have C8:=Kh (q6.out w8 H6.out);have s4:mb≠g8:=by have:=HM.out.lt;have:=h8.out.size;omega
 obtain⟨X2,H4⟩:∃X2:Nat->Prop,X2=fun q=>X1 q\/q=g8:=⟨_,rfl⟩;have r8:=Kh H4;have r9:Hid (BoxS B X2 o 114 w0 w8 (⟨B,22,.slice sE m cE,m,h4,1⟩::⟨B,3,.slice sP m cP,m,ints pre,1⟩::⟨B,3,.slice sL m cL,m,ints a7,1⟩::⟨B,22,.slice sR d cR,d,h3,1⟩::⟨B,135,.slice sU u cU,u,us,2⟩::⟨B,9,.slice sW m cW,m,yZ ws,1⟩::⟨B,3,.slice sB m cB,m,ints a6,1⟩::⟨B,3,.slice sS s cS,s,nats a8,1⟩::⟨B,22,.slice sG k cG,k,a9,1⟩::tl) #[.int .i64 (n:Int),.bool true,.slice sG k cG,.slice sE m cE,.slice sP m cP,.slice sL m cL,.slice sR d cR,.slice sU u cU,.int .i64 (d:Int),.map (some mb),.slice sW m cW,.slice sB m cB,.slice sS s cS] w8):=Kh (by rw[H4];exact q5.out.fresh (Y:=fun q=>q=g8) H2 (fun q hq=>by subst hq;exact⟨h6,p0⟩));have t6:Hid (RowX X2 3 w8 (.slice (some ⟨g8,0,none⟩) n c8) (nats g)):=Kh (RowX.of_owns h0 (fun q hq=>by simp[Value.ownBlock]at hq;subst hq;rw[H4];exact .inr rfl));have s0:Hid (xX X w w8/\w.heap.size<=w8.heap.size):=Kh ⟨fun q hq=>(q5.out.grow H2).kept q (by rw[q4.out];exact .inl hq),H6.out.size⟩;refine hK.out _ _ ⟨trivial,fun _=>C8.out⟩ ?_;clear hK K C q5 H2 h0 H4 h6 s1
 try simp only[Act.put,sPa,sPb,sPc]
 refine oneG (i:=8) (by kernel_rfl) rfl (fun K hK=>?_);go_simp;have H0:=heap_alloc_new w8 (.cells #[Value.slice (some ⟨g8,0,none⟩) n c8] 22);have H1:=Ga w8 (.cells #[Value.slice (some ⟨g8,0,none⟩) n c8] 22) none;obtain⟨gR,r5⟩:=Nm w8.heap.size;obtain⟨w9,q9⟩:=Nm (w8.alloc (.cells #[Value.slice (some ⟨g8,0,none⟩) n c8] 22));rw[<-r5]at H0⊢;rw[<-q9]at H0 H1⊢;have h7:Hid (BoxS B X2 o 114 w0 w8 (⟨B,22,.slice sE m cE,m,h4,1⟩::⟨B,3,.slice sP m cP,m,ints pre,1⟩::⟨B,3,.slice sL m cL,m,ints a7,1⟩::⟨B,22,.slice sR d cR,d,h3,1⟩::⟨B,135,.slice sU u cU,u,us,2⟩::⟨B,9,.slice sW m cW,m,yZ ws,1⟩::⟨B,3,.slice sB m cB,m,ints a6,1⟩::⟨B,3,.slice sS s cS,s,nats a8,1⟩::⟨B,22,.slice sG k cG,k,a9,1⟩::tl) #[.int .i64 (n:Int),.bool true,.slice sG k cG,.slice sE m cE,.slice sP m cP,.slice sL m cL,.slice sR d cR,.slice sU u cU,.int .i64 (d:Int),.map (some mb),.slice sW m cW,.slice sB m cB,.slice sS s cS] w9):=Kh (r9.out.grow H1);have C9:=Kh (q6.out w9 (zC H6.out H1));refine hK.out _ _ ⟨trivial,fun _=>C9.out⟩ ?_;clear hK K C8 r5 q9 H1
 try simp only[Act.put,sPa,sPb,sPc]
 have r1:=h7.out.own (r:=⟨B,22,.slice sG k cG,k,a9,1⟩) (by simp);have q7:=Nat.le_trans h7.out.base h7.out.wk;refine oneG (i:=9) (by kernel_rfl) rfl (fun K hK=>?_);refine qK rfl (.tmp 63) (.tmp 66) 35 rfl wP.toN B (.slice sG k cG) k a9 rfl r1 [.slice (some ⟨g8,0,none⟩) n c8] gR rfl (0,0) rfl H0 ?z1 ?z2 ?z3 q7 ?_
 case z1=>intro v hv;simp only[List.mem_cons,List.not_mem_nil,or_false]at hv;subst hv;rfl
 case z2=>unfold maxLen;omega
 case z3=>show (k+1)*24<=140737488355328;omega
 intro sN cN wM h5 r6 r2;have H5:Hid (BoxS B X2 o 114 w0 w8 (⟨B,22,.slice sE m cE,m,h4,1⟩::⟨B,3,.slice sP m cP,m,ints pre,1⟩::⟨B,3,.slice sL m cL,m,ints a7,1⟩::⟨B,22,.slice sR d cR,d,h3,1⟩::⟨B,135,.slice sU u cU,u,us,2⟩::⟨B,9,.slice sW m cW,m,yZ ws,1⟩::⟨B,3,.slice sB m cB,m,ints a6,1⟩::⟨B,3,.slice sS s cS,s,nats a8,1⟩::⟨B,22,.slice sN (k+1) cN,k+1,a9++[.slice (some ⟨g8,0,none⟩) n c8],1⟩::tl) #[.int .i64 (n:Int),.bool true,.slice sG k cG,.slice sE m cE,.slice sP m cP,.slice sL m cL,.slice sR d cR,.slice sU u cU,.int .i64 (d:Int),.map (some mb),.slice sW m cW,.slice sB m cB,.slice sS s cS] wM):=Kh (h7.out.appAt (j:=8) rfl h5 r6 r2)
 have CM:Hid (wM.cell? ⟨o,2,none⟩=some (.slice sG k cG)):=Kh (by
  have q2:=zG H5.out.box 2;simp only[List.getElem_toArray,List.getElem_cons_zero,List.getElem_cons_succ]at q2
  exact q2)
 refine hK.out _ _ ⟨trivial,fun _=>CM.out⟩ ?_;clear hK K C9 h7 r9 h5 r6 r2 H0 r1 q7
 try simp only[Act.put,sPa,sPb,sPc]
 refine zO 10 ⟨trivial,fun _=>CM.out⟩ ?_;refine zO 11 ⟨trivial,fun _=>CM.out⟩ ?_;refine zO 12 ⟨trivial,fun _=>CM.out⟩ ?_;refine oneG (i:=13) (by kernel_rfl) rfl (fun K hK=>?_);have q2:=CM.out;have f2:=zA H5.out.box 2;go_simp;refine hK.out _ _ ⟨trivial,fun h=>by simp at h⟩ ?_;clear hK K q2 f2 CM
 try simp only[Act.put,sPa,sPb,sPc]
 refine rE (by kernel_rfl) ?_ _;refine NoPanic.normal ?_;obtain⟨wZ,H7⟩:=Nm (wM.setCell ⟨o,2,none⟩ (.slice sN (k+1) cN));have HZ:Hid (BoxS B X2 o 114 w0 w8 (⟨B,22,.slice sE m cE,m,h4,1⟩::⟨B,3,.slice sP m cP,m,ints pre,1⟩::⟨B,3,.slice sL m cL,m,ints a7,1⟩::⟨B,22,.slice sR d cR,d,h3,1⟩::⟨B,135,.slice sU u cU,u,us,2⟩::⟨B,9,.slice sW m cW,m,yZ ws,1⟩::⟨B,3,.slice sB m cB,m,ints a6,1⟩::⟨B,3,.slice sS s cS,s,nats a8,1⟩::⟨B,22,.slice sN (k+1) cN,k+1,a9++[.slice (some ⟨g8,0,none⟩) n c8],1⟩::tl) #[.int .i64 (n:Int),.bool true,.slice sN (k+1) cN,.slice sE m cE,.slice sP m cP,.slice sL m cL,.slice sR d cR,.slice sU u cU,.int .i64 (d:Int),.map (some mb),.slice sW m cW,.slice sB m cB,.slice sS s cS] wZ):=Kh (by rw[H7];exact H5.out.set 2 (.slice sN (k+1) cN));rw[<-H7];clear H7 H5;obtain⟨X3,H3⟩:∃X3:Nat->Prop,X3=fun q=>X q\/q=g8:=⟨_,rfl⟩
 have q8:∀q,X3 q->X2 q:=fun q hq=>by
  rw[H3]at hq;rw[r8.out,q4.out];rcases hq with hq|hq
  ·exact .inl (.inl hq)
  exact .inr hq
 have h9:∀q,X q->X3 q:=fun q hq=>by rw[H3];exact .inl hq
 have r3:=(HZ.out.less q8).kept;have r0:=HZ.out.wk;have p1:xX X w wZ:=s0.out.1.trans (fun q hq=>r3 q (h9 q hq));have h2:=Nat.le_trans s0.out.2 r0;have t4:RowX X3 3 w8 (.slice (some ⟨g8,0,none⟩) n c8) (nats g):=⟨t6.out.1,fun q hq=>by rw[H3];simp[Value.ownBlock]at hq;exact .inr hq.symm⟩;refine f7 _ _ _ _ _ _ _ _ _ _ _ _ _  _ _ _ _ ⟨X3,mb,u,us,h4,h3,ws,sE,sP,sL,sR,sU,sW,sB,sS,cE,cP,cL,cR,cU,cW,cB,cS,(HZ.out.less q8).rebase,(HE.out.kept p1 h2).mono h9,(HR.out.kept p1 h2).mono h9,((HG.out.kept p1 h2).mono h9).snoc (t4.kept r3 r0),⟨c,(HM.out.kept H6.out (by simp)).of_block (HZ.out.kept mb (by rw[r8.out,q4.out];exact .inl (.inr rfl)))⟩,?_,s5,?_,t7.out,HW.out,hu⟩ h2
 ·rw[H3]
  intro e;rcases e with e|e
  ·exact s2 e
  exact s4 e
 obtain⟨t3,t2,t1,t0,s9,s8,s7,s6⟩:=HL.out;exact⟨t3,t2,t1,t0,s9,s8,s7,by simp[s6]⟩
end Go.Proofs.Ytobakifdllameaa
