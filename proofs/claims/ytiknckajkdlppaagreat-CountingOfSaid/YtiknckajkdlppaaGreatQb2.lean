/- Part 2 of the proof. -/
import Derived.Test.YtiknckajkdlppaaGreatQb1
import Derived.Maps.OwnSet
import Derived.Maps.OwnOps
import Derived.Deep.DeepCutAuto
import Derived.Deep.CutBlock
import Derived.Deep.RegionHeld3
import Derived.Deep.DrawnRows
import Derived.Deep.OwnRows
import Derived.Deep.Cut
set_option linter.unusedVariables false
set_option linter.unusedSimpArgs false
set_option maxRecDepth 100000
set_option maxHeartbeats 16000000
namespace Go.Proofs.YtiknckajkdlppaaGreat
open Go.Maps Go.RowKit
variable{x:Int}{w:World}{b n k:Nat}{l:List Int}
theorem rY:Tryz.prog.underlying 86=some (.map 3 3):=yk
theorem tT:Tryz.prog.underlying 3=some (.int .i64):=yk
theorem gU (w:World):(zeroValue 3).run Tryz.prog w=.ok (.int .i64 0) w:=yk
def Mid (x:Int):Prop:=-4611686018427387904<x/\x<4611686018427387904
theorem cK (hx:Mid x):(Lit.int .i64 x).wf=true:=by
 have h1:IntKind.i64.min = -9223372036854775808:=rfl;have h2:IntKind.i64.max=9223372036854775807:=rfl;obtain⟨h3,h4⟩:=hx;simp[Lit.wf];omega
theorem qDM (hx:Mid x):keyOf Tryz.prog 3 (.int .i64 x)=some (.int .i64 x):=keyOf_int_mk (q:=.i64) yk (cK hx)
def qB (w:World)(b n:Nat)(l:List Int):Prop :=
 ∃D:DataW Unit,w.ownsMap Tryz.prog 3 (plainElem Tryz.prog 3) b n D/\size D=l.length /\
  ∀x:Int,Mid x->has D (.int .i64 x)=decide (x∈l)/\D.atKey (.int .i64 x) (.lit (.int .i64 0))=.lit (.int .i64 (if x∈l then ((l.idxOf x:Nat):Int) else 0))
theorem qB.made (w:World):qB (w.alloc (.map #[] 0)) w.heap.size 0 []:=by
 refine⟨.map [],World.ownsMap_made _ _ _ _,rfl,fun x _=>⟨by simp[has_eq],?_⟩⟩;rw[WideAt.atKey_none _ yq];simp
theorem qB.kept {w':World}{row:Option Nat}(h:qB w b n l)(hg:w.grownBy w' row)(a9:row≠some b):qB w' b n l:=by
 obtain⟨D,h1,h2,h3⟩:=h;exact⟨D,h1.kept hg (fun e=>a9 e.symm),h2,h3⟩
theorem qB.mono {n':Nat}(h:qB w b n l)(hn:n<=n'):qB w b n' l:=by
 obtain⟨D,h1,h2,h3⟩:=h;exact⟨D,h1.mono hn,h2,h3⟩
theorem qB.lt (h:qB w b n l):b<w.heap.size:=by
 obtain⟨D,h1,_⟩:=h;exact h1.lt
theorem qB.lookup (h:qB w b n l)(hx:Mid x):(Instr.lookup 86 (.map (some b)) (.int .i64 x) true).run Tryz.prog w=.ok (.tuple #[.int .i64 (if x∈l then ((l.idxOf x:Nat):Int) else 0),.bool (decide (x∈l))]) w:=by
 obtain⟨D,h1,h2,h3⟩:=h;obtain⟨v,ps,h0,hv⟩:=h1.look_ok aO rY (gU w) (plainElem_int tT jd) (qDM hx);obtain⟨c,rfl,hc,_⟩:=plainElem_int_inv tT hv;obtain⟨e1,e2⟩:=h3 x hx;have e3:=congrArg Prod.fst hc;simp only[e2]at e3;rw[h0,e1]
 have e4:(if x∈l then ((l.idxOf x:Nat):Int) else 0)=c:=by
  simp only[Lit.int.injEq,DataW.lit.injEq,true_and]at e3;exact e3
 rw[e4]
theorem qB.len (h:qB w b n l):(Builtin.len_ #[86] 3 #[.map (some b)]).run Tryz.prog w=.ok (.int .i64 (l.length:Nat)) w:=by
 obtain⟨D,h1,h2,h3⟩:=h;have h0:=h1.len rY 3;rw[h2]at h0;exact h0
theorem lD {ops:Array Oper}{a9:List Oper}{o:Oper}{a:Act}{Q:Exit->Act->World->Prop}(hg:o.guard=none)(m x v:Operand)(a7:o.op=Op.mapUpdate 86 m x v)(b n:Nat)(l:List Int)(z:Int)(hm:a.eval m=.map (some b))(hx:a.eval x=.int .i64 z)(hv:a.eval v=.int .i64 (l.length:Nat))(h:qB w b n l)(hn:n<maxLen)(hz:Mid z)(a8:z ∉ l)(a6:l.length<4611686018427387904)(hK:∀w',qB w' b (n+1) (l++[z])->w.grownBy w' (some b)->wpList Tryz.prog ops Q a9 (a.put o.dst undef) w'):wpList Tryz.prog ops Q (o::a9) a w:=by
 obtain⟨D,h1,h2,h3⟩:=h;obtain⟨w',h0,h4,h7⟩:=h1.update aO rY hn (qDM hz) (plainElem_int tT (cK (x:=((l.length:Nat):Int)) ⟨yo,yo⟩));have h6:WideAt.IsKeyLit (.int .i64 z):=by simp[WideAt.IsKeyLit]
 refine wpList_plain hg fun K' hK'=>?_;unfold Oper.wp;simp[execOp,a7,hm,hx,hv,h0,Result.andThen];refine hK' _ _ (hK w' ⟨_,h4,?_,fun y hy=>?_⟩ h7)
 ·rw[size_put (h1.tidy aO),(h3 z hz).1,decide_eq_false a8,h2];simp
 by_cases e:y=z
 ·subst e
  refine⟨by rw[has_put_same h1.isMap h6];simp,?_⟩;rw[atKey_put_same h1.isMap h6,if_pos yq,List.idxOf_append,if_neg a8];simp
 have h5:(Lit.int .i64 y)≠Lit.int .i64 z:=by intro h;injection h with _ h;exact e h
 obtain⟨e1,e2⟩:=h3 y hy;refine⟨by rw[has_put_other h5,e1];simp[e],?_⟩;rw[atKey_put_other h5,e2];by_cases hyl:y∈l
 ·rw[if_pos hyl,if_pos (by simp[hyl]),List.idxOf_append,if_pos hyl]
 rw[if_neg hyl,if_neg (by simp[hyl,e])]
def vO (l:List Nat)(k:Nat):List Nat:=l.take k++List.replicate (l.length-k) 0
theorem tH (l:List Nat):vO l 0=List.replicate l.length 0:=by simp[vO]
theorem tX (l:List Nat):vO l l.length=l:=by simp[vO]
theorem yZ {l:List Nat}(h:k<=l.length):(vO l k).length=l.length:=by simp[vO];omega
theorem tW {l:List Nat}(h:k<l.length):(vO l k).set k (l.getD k 0)=vO l (k+1):=by
 have hl:(l.take k).length=k:=by simp;omega
 unfold vO;rw[List.set_append_right _ _ yo,hl,Nat.sub_self,yH (d:=0) h,show l.length-k=(l.length-(k+1))+1 by omega,List.replicate_succ,List.set_cons_zero,List.append_assoc];rfl
def qEM (w:World)(p:List Nat)(e:Ending)(w':World):Prop :=
 ∃g,e=.returned (.slice (some ⟨g,0,none⟩) p.length p.length)/\w.heap.size<=g/\Arr w' g 3 (nats p)/\w.grownBy w' none
theorem qJW (hk:k<l.length):(numb l).getD k 0=if l[k]∈yT (l.take k) then (yT (l.take k)).idxOf l[k] else (yT (l.take k)).length:=by
 rw[zQ (by rw[xI];exact hk),pM hk,<-qBH hk,List.take_succ_eq_append_getElem hk,sY];by_cases h:l[k]∈yT (l.take k)
 ·rw[tZ h,if_pos h]
 rw[uK h,if_neg h,List.idxOf_append,if_neg h];simp
theorem cC (B:Nat)(w:World)(v:Value)(l:List Int)(hB:B<=w.heap.size)(h:Row B w v (ints l))(a9:∀x∈l,Mid x)(a4:l.length<=4194304):Calls Tryz.prog 58 #[v] w (qEM w (numb l)):=by
 have c4:=@run_makeMap Tryz.prog;obtain⟨va,vc,rfl⟩:=h.shape;rw[zL]at h⊢;have H:=Kh h;have HM:=Kh a9;clear h a9;obtain⟨w1,h4⟩:=Nm (w.alloc (.map #[] 0));have b0:w.grownBy w1 none:=by rw[h4];exact Ga w _ none
 have c3:w1.heap.size=w.heap.size+1:=by rw[h4,zW]
 have b7:Hid (qB w1 w.heap.size 0 []):=Kh (by rw[h4];exact qB.made w);have b8:=Kh b0;have b5:=Kh h4;clear b0 h4;go_enter Tryz.func58,Tryz.ntmps58;go_upto_region 2 with fail;rw[<-b5.out];go_wp2_with (first|(at_make;refine pL rfl _ _ _ rfl yJ rfl .i64 .i64 _ _ l.length rfl rfl rfl rfl ?b1 ?b2 ?_)|fail)
 case b1=>omega
 case b2=>unfold maxLen;omega
 intro w2 h0 H6 H3;have a0:=Kh h0;have H9:=Kh H6;have c2:=H6.size;clear h0 H6;obtain⟨g,hg⟩:=Nm (w.heap.size+1);rw[<-hg]at a0⊢;have c8:w.heap.size<g:=yo
 have c7:g<w2.heap.size:=yo
 clear hg H3;go_wp2
 go_loopg [5,6,7,8,15] l.length (fun gh a5 a6 a7 a8 i wr=>∃k:Nat,gh+k=l.length/\i=.int .i64 k/\Arr wr g 3 (nats (vO (numb l) k))/\qB wr w.heap.size k (yT (l.take k))/\w.grownBy wr none)
 case atStart=>exact⟨0,rfl,rfl,by rw[tH,xI,yW];exact a0.out,by simpa [yT] using b7.out.kept H9.out yq,zI b8.out H9.out⟩
 clear a0 H9;obtain⟨k,hg,rfl,h0,h5,h9⟩:=hrel;obtain⟨HG,HA,h8,H8⟩:=Kd hg h0 h5 h9;have c0:=h9.size;have a2:(numb l).length=l.length:=xI l;clear hg h5;by_cases hk:k<l.length
 ·have c6:(k:Int)<l.length:=yo
  obtain⟨ib,io,ic,e,_,_,_,a1⟩:=(H.out.kept h9 yq).some_ (by rw[zL];omega);simp only[Value.slice.injEq]at e;obtain⟨rfl,-,-⟩:=e;have ck:=a1.int k hk;have H2:Mid (l.getD k 0):=(by rw[zQ hk];exact HM.out _ (List.getElem_mem hk));have h2:=qJW hk;rw[<-zQ (d:=0) hk]at h2;have h7:yT (l.take (k+1))=wU (yT (l.take k)) (l.getD k 0):=by rw[List.take_succ_eq_append_getElem hk,sY,zQ hk]
  obtain⟨x,hx⟩:=Nm (l.getD k 0);rw[<-hx]at ck H2 h2 h7;have h6:=sK (l.take k);rw[List.length_take]at h6;have H4:=h8.out.lookup H2;have h1:=tW (l:=numb l) (k:=k) yo;have c9:=frozen_of_row wr g k;have cgk:=h0.nat k (by rw[yZ yo];omega);have d0:(nats (vO (numb l) k)).length=l.length:=by rw[zV,yZ yo];omega
  have fgk:=h0.frozen k;clear a1 hx h9 h0;by_cases hin:x∈yT (l.take k)
  ·rw[if_pos hin,decide_eq_true hin]at H4
   rw[if_pos hin]at h2;have H1:Hid (yT (l.take (k+1))=yT (l.take k)):=Kh (by rw[h7,tZ hin]);obtain⟨c,hc⟩:=Nm ((yT (l.take k)).idxOf x);rw[<-hc]at H4 h2;rw[h2]at h1;have HS:=Kh h1;clear h2 h1 hc h7 hin;go_wp2;go_roundg (l.length-(k+1))
   case measure=>have:=HG.out;omega
   refine⟨k+1,yo,by go_num,?_,?_,?_⟩
   ·rw[<-HS.out];exact HA.out.nat_set k (by rw[yZ yo];omega) c
   ·rw[H1.out]
    exact(h8.out.kept (zH wr ⟨g,k,none⟩ _) (by simp;omega)).mono yo
   exact zE H8.out (zH wr ⟨g,k,none⟩ _) (fun q e=>by have:=Oj e;simp at this;omega)
  rw[if_neg hin,decide_eq_false hin]at H4;rw[if_neg hin]at h2;have H1:Hid (yT (l.take (k+1))=yT (l.take k)++[x]):=Kh (by rw[h7,uK hin]);have b3:=Kh hin;have b6:=Kh H2;rw[h2]at h1;have HS:=Kh h1;clear h2 h1 h7 hin cgk fgk;obtain⟨L,hL⟩:=Nm (yT (l.take k));rw[<-hL]at h8 H1 b3 HS h6;have c5:=h8.out.len;clear hL;go_wp2_with (first|(at_mapUpdate;refine lD rfl _ _ _ rfl w.heap.size k L x rfl rfl rfl h8.out jm b6.out b3.out yo ?_;intro w5 h3 H5;(have H0:=HA.out.kept H5 (by simp;omega));(have H7:=Kh h3);(have b4:=Kh H5);(have b9:=Kh H0);(have fg5:=H0.frozen k);(have cg5:=H0.nat k (by rw[yZ yo];omega));clear h3 H5 H0)|fail);go_roundg (l.length-(k+1))
  case measure=>have:=HG.out;omega
  have c1:=b4.out.size;refine⟨k+1,yo,by go_num,?_,?_,?_⟩
  ·rw[<-HS.out];exact b9.out.nat_set k (by rw[yZ yo];omega) _
  ·rw[H1.out]
   exact H7.out.kept (zH w5 ⟨g,k,none⟩ _) (by simp;omega)
  exact zE (zE H8.out b4.out (fun q e=>by have:=Oj e;omega)) (zH w5 ⟨g,k,none⟩ _) (fun q e=>by have:=Oj e;simp at this;omega)
 have a3:k=l.length:=by have:=HG.out;omega
 have HE:Hid (vO (numb l) k=numb l):=Kh (by rw[a3,<-a2];exact tX _);clear a3 h0;go_wp2;go_ret;refine⟨g,by rw[a2];rfl,yo,?_,H8.out⟩;rw[<-HE.out];exact HA.out
end Go.Proofs.YtiknckajkdlppaaGreat
namespace Go.Proofs.YtiknckajkdlppaaGreat
open Go.RowKit
variable{P:Program}{w:World}{base e a8 b off x L i j L' j':Nat}{xs:List Value}{o:Oper}{a:Act}{K:Act->World->Prop}{Q:Exit->Act->World->Prop}{z:Value}{ops:Array Oper}{t:List (List Int)}{l:List Nat}
theorem iJ (base:Nat)(t ty e:TypeId)(i:TypeInfo)(size:Nat)(ht:P.underlying t=some (.slice e))(hi:P.info? e=some i)(v:Value)(n:Nat)(xs:List Value)(a9:w.ownsRow base e size v n xs)(c:Nat):(Builtin.append_ #[t,t] ty #[v,.slice none 0 c]).run P w=.ok v w:=by
 rcases a9.2 with ⟨rfl,rfl⟩|⟨g,cap,cur,rfl,_,_,hnc,_⟩
 ·simp[Builtin.append_,run_underlying ht,sizeOf,typeInfo,hi,Builtin.lenOf,Builtin.firstCells]
 simp[Builtin.append_,run_underlying ht,sizeOf,typeInfo,hi,Builtin.lenOf,Builtin.firstCells,hnc,storeCells]
theorem gF {size n:Nat}{v:Value}(h:w.ownsRow base e size v n xs):∃sa sc,v=.slice sa n sc:=by
 rcases h.2 with ⟨rfl,rfl⟩|⟨g,cap,cur,rfl,_⟩
 ·exact⟨none,0,rfl⟩
 exact⟨_,_,rfl⟩
theorem qIE (s x:Operand)(t:TypeId)(ho:o.op=.call { callee:=.builtin .append,args:=#[s,x],argTypes:=#[t,t] }){e:TypeId}(E:ElemOk P t e z a8)(base:Nat)(v:Value)(n:Nat)(xs:List Value)(hs:a.eval s=v)(a6:w.ownsRow base e 1 v n xs)(sv:Value)(a9:List Value)(hx:a.eval x=sv)(a4:∃B,Row B w sv a9)(h1:∀u∈a9,u.oneCell'=true)(N:Nat)(hN:n+a9.length=N)(a3:N<=maxLen)(a7:N*a8<=140737488355328)(a5:base<=w.heap.size)(h:∀sa sc w',w'.ownsRow base e 1 (.slice sa N sc) N (xs++a9)->w.grownBy w' v.ownBlock->K (a.put o.dst (.slice sa N sc)) w'):o.wp P a w K Q:=by
 obtain⟨i,hi,hz,h4,h6⟩:=info_parts E.hi;subst hN
 have fin:∀v' w',w'.ownsRow base e 1 v' (n+a9.length) (xs++a9)->w.grownBy w' v.ownBlock->K (a.put o.dst v') w':=by
  intro v' w' h1 h2;obtain⟨sa,sc,rfl⟩:=gF h1;exact h sa sc w' h1 h2
 obtain⟨B,a4⟩:=a4;rcases a4 with ⟨a',cap,rfl,rfl⟩|⟨b,off,cap,rfl,_,h2,h3,hra⟩
 ·cases a' with
  | none =>
   have hr:=iJ (P:=P) (w:=w) base t o.type e i 1 E.ht hi v n xs a6 cap;unfold Oper.wp execOp;simp only[ho,resolve,invoke,builtin,Sem.run_bind,Sem.run_pure,Result.andThen_ok,List.map_toArray,List.map_cons,List.map_nil,hs,hx,hr];exact fin v w (by simpa using a6) (World.grownBy.refl w _)
  | some ad =>
   refine wp_append_own w s x t ho base e i z 1 a8 E.ht hi hz h4 h6 E.hz jd v n xs hs a6 ad 0 cap [] hx rfl (fun j u hj=>by simp at hj) (fun u hu=>by simp at hu) a3 a7 a5 ?_;intro v' w' h1 h2 _;exact fin v' w' h1 h2
 refine wp_append_own w s x t ho base e i z 1 a8 E.ht hi hz h4 h6 E.hz jd v n xs hs a6 ⟨b,off,none⟩ a9.length cap a9 hx yq (fun j u' hj=>?_) h1 a3 a7 a5 ?_
 ·have h5:j<a9.length:=by
   rcases Nat.lt_or_ge j a9.length with h|h
   ·exact h
   ·rw[List.getElem?_eq_none h]at hj;cases hj
  have h0:(⟨b,off,none⟩:Addr).add j=⟨b,off+j,none⟩:=by unfold Addr.add;split<;>simp_all
  rw[List.getElem?_eq_getElem h5]at hj;rw[h0,hra.2 j h5,hj]
 intro v' w' h1 h2 _;exact fin v' w' h1 h2
theorem fM {R:Prop}(a3:o.guard=none)(s x:Operand)(t:TypeId)(ho:o.op=.call { callee:=.builtin .append,args:=#[s,x],argTypes:=#[t,t] }){e:TypeId}(E:ElemOk P t e z a8)(base:Nat)(v:Value)(n:Nat)(xs:List Value)(hs:a.eval s=v)(a4:w.ownsRow base e 1 v n xs)(sv:Value)(a9:List Value)(hx:a.eval x=sv)(a5:∃B,Row B w sv a9)(h1:∀u∈a9,u.oneCell'=true)(N:Nat)(hN:n+a9.length=N)(a2:N<=maxLen)(a7:N*a8<=140737488355328)(a6:base<=w.heap.size)(h:∀sa sc w',w'.ownsRow base e 1 (.slice sa N sc) N (xs++a9)->w.grownBy w' v.ownBlock->K (a.put o.dst (.slice sa N sc)) w'):if Region.wanted o (yielded ops a.tmps)=true then Oper.wp P o a w K Q else R:=by
 have hw:Region.wanted o (yielded ops a.tmps)=true:=by simp[Region.wanted,a3]
 rw[if_pos hw];exact qIE s x t ho E base v n xs hs a4 sv a9 hx a5 h1 N hN a2 a7 a6 h
theorem appR {a6:List Oper}(a2:o.guard=none)(s x:Operand)(t:TypeId)(ho:o.op=.call { callee:=.builtin .append,args:=#[s,x],argTypes:=#[t,t] }){e:TypeId}(E:ElemOk P t e z a8)(base:Nat)(v:Value)(n:Nat)(xs:List Value)(hs:a.eval s=v)(a3:w.ownsRow base e 1 v n xs)(sv:Value)(a9:List Value)(hx:a.eval x=sv)(a4:∃B,Row B w sv a9)(h1:∀u∈a9,u.oneCell'=true)(N:Nat)(hN:n+a9.length=N)(a1:N<=maxLen)(a7:N*a8<=140737488355328)(a5:base<=w.heap.size)(h:∀sa sc w',w'.ownsRow base e 1 (.slice sa N sc) N (xs++a9)->w.grownBy w' v.ownBlock->wpList P ops Q a6 (a.put o.dst (.slice sa N sc)) w'):wpList P ops Q (o::a6) a w :=
 wpList_plain a2 fun _ hK=>qIE s x t ho E base v n xs hs a3 sv a9 hx a4 h1 N hN a1 a7 a5 fun sa sc w' h2 h3=>hK _ _ (h sa sc w' h2 h3)
theorem jK {W:World}{g:Nat}(h:W.heap[g]?=some (.cells #[] e (0,0)))(hb:base<=g):W.ownsRow base e 1 (.slice (some ⟨g,0,none⟩) 0 0) 0 [] :=
 ⟨yq,.inr ⟨g,0,#[],rfl,hb,h,Nat.le_refl _,Nat.zero_le _,yq,yq⟩⟩
theorem qHD (w:World)(o o':Obj):((w.alloc o).alloc o').heap[w.heap.size]?=some o:=zD (heap_alloc_new w o) (Ga _ _ none)
theorem qGX (w:World)(o o':Obj):((w.alloc o).alloc o').heap[w.heap.size+1]?=some o':=by
 have:=heap_alloc_new (w.alloc o) o'
 rwa [zW]at this
theorem uE.take (h:uE w b off xs)(k:Nat):uE w b off (xs.take k) :=
 ⟨h.1,fun i hi=>by rw[List.length_take]at hi;rw[h.2 i yo,List.getElem_take]⟩
theorem uE.drop (h:uE w b off xs)(k:Nat):uE w b (off+k) (xs.drop k) :=
 ⟨h.1,fun i hi=>by rw[List.length_drop]at hi;rw[Nat.add_assoc,h.2 (k+i) yo,List.getElem_drop]⟩
theorem qNO (l:List Nat):∀u∈nats l,u.oneCell'=true:=by
 intro u hu;obtain⟨x,_,rfl⟩:=List.mem_map.1 hu;rfl
theorem zN {w':World}{p:Addr}{u:Value}(h:w.cell? p=some u)(hg:w.grownBy w' none):w'.cell? p=some u:=(World.cell?_of_block (hg.block p.block (World.block_lt_of_cell? w p h) yq)).trans h
theorem gV (a b:List Int):strOfNums a++strOfNums b=strOfNums (a++b):=by
 apply ByteArray.ext;simp[strOfNums]
open Go.Maps
def powN (t:List (List Int))(x:Nat):Nat->Nat
 | 0=>0
 | i+1=>entN t (powN t x i) x
def vQ (t:List (List Int))(x L:Nat):List Nat:=(List.range L).map (powN t x)
theorem vJ (t:List (List Int))(x L:Nat):(vQ t x L).length=L:=by simp[vQ]
theorem lH (t:List (List Int))(x L:Nat):vQ t x L++[powN t x L]=vQ t x (L+1):=by rw[vQ,vQ,List.range_succ,List.map_append];rfl
theorem jG (h:i<L):(vQ t x L).getD i 0=powN t x i:=by
 rw[zQ (by rw[vJ];exact h)];simp[vQ]
theorem kK {t:List (List Int)}(hs:Shape t){x:Nat}(hx:x<t.length):∀i,powN t x i<t.length
 | 0=>hs.pos
 | i+1=>qK hs (kK hs hx i) hx
def PowR (t:List (List Int))(x L j:Nat):Prop:=(vQ t x L).Nodup/\j<L/\powN t x L=powN t x j
theorem qJK (h:(vQ t x L).Nodup)(hi:i<L)(hj:j<L)(e:powN t x i=powN t x j):i=j:=by
 have e1:(vQ t x L)[i]'(by rw[vJ];exact hi)=(vQ t x L)[j]'(by rw[vJ];exact hj):=by simpa [vQ] using e
 exact(List.getElem_inj h).1 e1
theorem PowR.le (h:PowR t x L j)(h':PowR t x L' j'):L'<=L:=by
 rcases Nat.lt_or_ge L L' with h1|h1
 ·have:=qJK h'.1 h1 (by have:=h.2.1;omega) h.2.2
  have:=h.2.1;omega
 exact h1
theorem PowR.eq (h:PowR t x L j)(h':PowR t x L' j'):L=L'/\j=j':=by
 have e:L=L':=Nat.le_antisymm (h'.le h) (h.le h');subst e;exact⟨rfl,qJK h.1 h.2.1 h'.2.1 (h.2.2.symm.trans h'.2.2)⟩
theorem qAX (h:(vQ t x L).Nodup)(hn:powN t x L ∉ vQ t x L):(vQ t x (L+1)).Nodup:=by
 rw[<-lH,List.nodup_append];exact⟨h,yq,fun a ha b hb=>by rw[List.mem_singleton]at hb;subst hb;exact fun e=>hn (e ▸ ha)⟩
theorem lI (hs:Shape t)(hx:x<t.length)(h:(vQ t x L).Nodup):L<=t.length:=by
 have:=qN h (n:=t.length) (fun q hq=>by obtain⟨i,_,rfl⟩:=List.mem_map.1 hq;exact kK hs hx i)
 rwa [vJ]at this
def vD (l:List Nat):List Int:=l.map fun(x:Nat)=>(x:Int)
theorem qKA :(x:Int)∈vD l↔x∈l:=by
 constructor
 ·intro h
  obtain⟨y,hy,e⟩:=List.mem_map.1 h;have:y=x:=yo
  rw[<-this];exact hy
 intro h;exact List.mem_map_of_mem h
theorem qKB :(vD l).idxOf (x:Int)=l.idxOf x:=by
 induction l with
 | nil=>rfl
 | cons a l ih =>
  rw[vD,List.map_cons,List.idxOf_cons,List.idxOf_cons,<-vD,ih];by_cases h:a=x
  ·subst h;simp
  have h2:¬(a:Int)=(x:Int):=yo
  have e1:((a:Int) == (x:Int))=false:=by rw[beq_eq_false_iff_ne];exact h2
  have e2:(a == x)=false:=by rw[beq_eq_false_iff_ne];exact h
  rw[e1,e2]
def qTH (t:List (List Int))(x:Nat)(w:World)(e:Ending)(w':World):Prop :=
 ∃L j sa sc,PowR t x L j/\e=.returned (.tuple #[.slice sa L sc,.int .i64 (j:Int)])/\w'.ownsRow w.heap.size 3 1 (.slice sa L sc) L (nats (vQ t x L))/\w.grownBy w' none
theorem qAY (B:Nat)(w:World)(b off cap:Nat)(RB RO RC:Nat->Nat)(t:List (List Int))(x:Nat)(hB:B<=w.heap.size)(hq:Sq B w t b off RB RO RC)(hs:Shape t)(a6:t.length<=cap)(a5:cap<=9223372036854775807)(hx:x<t.length):Calls Tryz.prog 27 #[.slice (some ⟨b,off,none⟩) t.length cap,.int .i64 (x:Int)] w (qTH t x w):=by
 have e7:=@run_makeMap Tryz.prog;have d5:=hs.le;obtain⟨n,hN⟩:=Nm t.length;obtain⟨HN,HS,HQ⟩:=Kc hN hs hq;rw[<-hN]at a6 hx d5⊢;obtain⟨mb,H5⟩:=Nm w.heap.size;obtain⟨w1,H1⟩:=Nm (w.alloc (.map #[] 0));have c8:w.grownBy w1 none:=by rw[H1];exact Ga w _ none
 have b8:w1.heap.size=mb+1:=by rw[H1,zW,H5]
 have d0:Hid (qB w1 mb 0 (vD (vQ t x 0))):=Kh (by rw[H1,H5];exact qB.made w);obtain⟨e3,d8,H7,e8⟩:=Kd c8 H1 H5 b8;clear hs hq hN c8 H1 H5 b8;go_enter Tryz.func27,Tryz.ntmps27;go_upto_region 2 with fail;rw[<-d8.out,<-H7.out];go_wp2
 go_loopg [7,8,9,10] (n+1) (fun gh a7 a8 a9 a10 wr=>∃(L:Nat) (sa:Option Addr) (sc:Nat),gh+L=n+1/\a7=.slice sa L sc/\a8=.int .i64 ((powN t x L:Nat):Int)/\(vQ t x L).Nodup/\wr.ownsRow (mb+1) 3 1 (.slice sa L sc) L (nats (vQ t x L))/\qB wr mb L (vD (vQ t x L))/\w.grownBy wr none)
 case atStart=>exact⟨0,none,0,rfl,rfl,rfl,by simp[vQ],by simpa [vQ,nats] using World.ownsRow_nil _ _ _ _,d0.out,e3.out⟩
 clear d0;obtain⟨L,sa,sc,a2,rfl,rfl,H2,h4,h3,H6⟩:=hrel;obtain⟨d2,e0,HO,b4,b6⟩:=Ke a2 H2 h4 h3 H6;have d3:=H6.size;have hp:=kK HS.out (by rw[<-HN.out];exact hx) L;rw[<-HN.out]at hp;have h6:=h3.lookup (x:=((powN t x L:Nat):Int)) ⟨yo,yo⟩;have hL:=lI HS.out (by rw[<-HN.out];exact hx) H2;rw[<-HN.out]at hL;have b3:Hid (powN t x (L+1)=entN t (powN t x L) x):=Kh rfl;have b1:=Kh (lH t x L);have h0:((powN t x L:Nat):Int)∈vD (vQ t x L)↔powN t x L∈vQ t x L:=qKA;have h7:(vD (vQ t x L)).idxOf ((powN t x L:Nat):Int)=(vQ t x L).idxOf (powN t x L):=qKB;rw[h7]at h6;by_cases hin:powN t x L∈vQ t x L
 ·rw[if_pos (h0.2 hin),decide_eq_true (h0.2 hin)]at h6
  obtain⟨j,hj⟩:=Nm ((vQ t x L).idxOf (powN t x L));rw[<-hj]at h6
  have HP:Hid (PowR t x L j):=Kh (by
   have a1:j<(vQ t x L).length:=(by rw[hj];exact List.idxOf_lt_length_of_mem hin);have c7:j<L:=(by rw[vJ]at a1;exact a1);refine⟨e0.out,c7,?_⟩;have e1:=List.getElem_idxOf (x:=powN t x L) (xs:=vQ t x L) (List.idxOf_lt_length_of_mem hin);rw[<-jG (t:=t) (x:=x) c7,zQ a1];simp only[hj]
   exact e1.symm)
  obtain⟨p,H0⟩:=Nm (powN t x L);rw[<-H0]at h6⊢;clear a2 H2 h4 h3 H6 hp hL h0 h7 hin hj H0 d3;go_wp2;refine bodyPost_ret (v:=.tuple #[.slice sa L sc,.int .i64 (j:Int)]) (by simp[results,Tryz.results27,go_sem]) rfl ?_;exact⟨L,j,sa,sc,HP.out,rfl,xO HO.out (by have:=H7.out;omega),b6.out⟩
 rw[if_neg (fun h=>hin (h0.1 h)),decide_eq_false (fun h=>hin (h0.1 h))]at h6;have H8:Hid (((powN t x L:Nat):Int) ∉ vD (vQ t x L)):=Kh (fun h=>hin (h0.1 h));have c9:=Kh (qAX H2 hin);have b0:Hid (vD (vQ t x L)++[((powN t x L:Nat):Int)]=vD (vQ t x (L+1))):=Kh (by rw[<-lH];simp[vD]);have d7:=lI HS.out (by rw[<-HN.out];exact hx) c9.out;rw[<-HN.out]at d7;obtain⟨l,hl⟩:=Nm (vD (vQ t x L));have c6:l.length=L:=by rw[hl];simp[vD,vJ]
 obtain⟨p,H0⟩:=Nm (powN t x L);rw[<-hl]at b4 H8 b0;rw[<-H0]at h6 H8 b0 hp b3 b1⊢;have d1:=Kh c6;have e9:=Kh H0;clear a2 H2 h4 h3 H6 hL h0 h7 hin hl c6 H0;go_upto_region 9 with (first|(at_mapUpdate;refine lD rfl _ _ _ rfl mb L l (p:Int) rfl rfl (by rw[d1.out];rfl) b4.out jm ⟨yo,yo⟩ H8.out (by rw[d1.out];omega) ?_;intro w5 h1 a4)|fail);rw[b0.out]at h1;have h9:w.grownBy w5 none:=yM b6.out a4 (by show _<=mb;have:=H7.out;omega)
 have c4:(Value.slice sa L sc).ownBlock=none\/(Value.slice sa L sc).ownBlock≠some mb:=by
  rcases hv:(Value.slice sa L sc).ownBlock with _|k
  ·exact .inl rfl
  refine .inr (fun e=>?_);have e:k=mb:=Oj e;have:=(HO.out.lt k hv).1;omega
 have c0:=HO.out.kept a4 c4;have e4:=h9.size;obtain⟨b2,b5,H3⟩:=Kc c0 h1 h9;have d6:mb+1<=w5.heap.size:=by have:=h1.lt;omega
 clear h1 a4 h9 c0 h6 b4 H8 HO b6 c4;go_upto_region 4 with (first|(at_builtin;refine app1 rfl (.tmp 32) (.tmp 34) _ rfl yJ (mb+1) _ L _ rfl b2.out _ rfl rfl ?c1 ?c2 ?c3 ?_)|fail)
 case c1=>unfold maxLen;omega
 case c2=>omega
 case c3=>exact d6
 intro sa6 sc6 w6 h2 a3 _;have h5:∀q,(Value.slice sa L sc).ownBlock=some q->w5.heap.size<=q\/mb+1<=q:=fun q hq=>.inr (b2.out.lt q hq).1;have h8:w.grownBy w6 none:=zE H3.out a3 (fun q e=>by rcases h5 q e with h|h<;>(have:=H7.out;omega));have c5:=(b5.out.kept a3 (fun e=>by rcases h5 mb e with h|h<;>(have:=b5.out.lt;omega)));have b9:nats (vQ t x L)++[.int .i64 (p:Int)]=nats (vQ t x (L+1)):=by rw[<-b1.out];simp[nats]
 rw[b9]at h2;have H4:=HQ.out.kept h8 yq;have chd:=H4.hd p (by rw[<-HN.out];exact hp);have cel:=H4.el p x (by rw[<-HN.out];exact hp) (by rw[<-HN.out];exact hx);have a0:=H4.cap p (by rw[<-HN.out];exact hp);have H9:=a0.1;have d4:RC p<=9223372036854775807:=by have:=a0.2;unfold maxLen at this;omega
 rw[<-HN.out]at chd H9;rw[<-b3.out]at cel;have e6:(p:Int)<n:=yo;have e5:(x:Int)<n:=yo;obtain⟨d9,b7,e2⟩:=Kc h2 h8 c5;obtain⟨y,hy⟩:=Nm (powN t x (L+1));rw[<-hy]at cel;have HY:=Kh hy;clear h2 a3 h5 h8 c5 b9 H4 a0 hy b3 b1 b5 b2 H3;go_wp2;go_roundg (n+1-(L+1))
 case measure=>have:=d2.out;omega
 exact⟨L+1,sa6,sc6,by have:=d2.out;omega,rfl,by rw[HY.out],c9.out,d9.out,e2.out,b7.out⟩
end Go.Proofs.YtiknckajkdlppaaGreat
namespace Go.Proofs.YtiknckajkdlppaaGreat
open Go.RowKit
variable{x a c i p e n y k bi bm g base:Nat}{idx per r:List Int}{w w' w0:World}{v mv a9 gv:Value}{bs:List Bool}{t:List (List Int)}{gs made:List Nat}{xs:List Value}
theorem qKE (n:Nat)(h:n<=4096):∀w:World,(Instr.makeSlice 26 (.int .i64 (n:Int)) (.int .i64 (n:Int))).run Tryz.prog w=.ok (.slice (some ⟨w.heap.size,0,none⟩) n n) (w.alloc (.cells (madeCells #[.bool false] n) 4)) :=
 fun w=>run_make_row' 26 4 (.bool false) 1 Tryz.underlying26 yk rfl .i64 .i64 n yo yo w
theorem qKT (n:Nat):(madeCells #[.bool false] n).toList=bls (List.replicate n false):=by
 have:=mK (z:=.bool false) rfl n;rw[Nat.mul_one]at this;rw[show bls (List.replicate n false)=List.replicate n (.bool false) by simp[bls]];exact this
theorem wK {x:Int}(h:-9223372036854775808<=x/\x<=9223372036854775807):IntKind.i64.wrap x=x:=by
 unfold IntKind.wrap;simp[IntKind.bits,IntKind.signed];omega
structure CntV where
 idx:List Int
 per:List Int
 acc:List Bool
def uD (idx per:List Int):Nat->Option Nat
 | 0=>some 1
 | a+1=>match uD idx per a with
  | none=>none
  | some c=>if 2000<idx.getD a 0\/2000<per.getD a 0\/2000<c*(idx.getD a 0+per.getD a 0).toNat then none else some (c*(idx.getD a 0+per.getD a 0).toNat)
def lU (idx per:List Int):Int:=match uD idx per idx.length with
 | some c=>c
 | none=>0
def kR (idx per:List Int):Bool:=(uD idx per idx.length).isSome
def PosC (idx per:List Int):Prop:=∀a,a<idx.length->0<=idx.getD a 0/\1<=per.getD a 0
theorem iT (h:uD idx per a=some c)(hi:idx.getD a 0=(i:Int))(hp:per.getD a 0=(p:Int)):uD idx per (a+1)=if 2000<i\/2000<p\/2000<c*(i+p) then none else some (c*(i+p)):=by
 rw[uD,h];simp only[hi,hp];rw[show ((i:Int)+(p:Int)).toNat=i+p by omega];by_cases h1:2000<i\/2000<p\/2000<c*(i+p)
 ·rw[if_pos h1,if_pos yo]
 rw[if_neg h1,if_neg yo]
theorem iU {idx per:List Int}{a:Nat}(h:uD idx per a=none):∀b,uD idx per (a+b)=none
 | 0=>h
 | b+1=>by rw[Nat.add_succ,uD,iU h b]
theorem qO :∀ {a c:Nat},uD idx per a=some c->c<=2000
 | 0,c,h=>by rw[uD]at h;have:=Oj h;omega
 | a+1,c,h=>by
  rw[uD]at h
  split at h
  ·cases h
  ·split at h
   ·cases h
   ·have:=Oj h;omega
theorem iD (h:uD idx per a=none)(ha:a<=idx.length):lU idx per=0/\kR idx per=false:=by
 have:=iU h (idx.length-a);rw[show a+(idx.length-a)=idx.length by omega]at this;exact⟨by rw[lU,this],by rw[kR,this];rfl⟩
theorem mQ (h:uD idx per idx.length=some c):lU idx per=c/\kR idx per=true :=
 ⟨by rw[lU,h],by rw[kR,h];rfl⟩
def posB (idx per:List Int):Bool:=(List.range idx.length).all fun a=>decide (0<=idx.getD a 0/\1<=per.getD a 0)
theorem fB :posB idx per=true↔PosC idx per:=by
 rw[posB,List.all_eq_true];exact⟨fun h a ha=>of_decide_eq_true (h a (List.mem_range.2 ha)),fun h a ha=>decide_eq_true (h a (List.mem_range.1 ha))⟩
def cntE (c:CntV):Int:=if c.idx.length<1\/6<c.idx.length then 1 else if c.per.length≠c.idx.length then 22 else if posB c.idx c.per=false then 22 else if kR c.idx c.per=false then 3 else if (c.acc.length:Int)≠lU c.idx c.per then 22 else 0
structure CntOk (c:CntV):Prop where
 k1:1<=c.idx.length
 k6:c.idx.length<=6
 pl:c.per.length=c.idx.length
 pos:PosC c.idx c.per
 size:uD c.idx c.per c.idx.length=some c.acc.length
theorem qPV {c:CntV}:cntE c=0↔CntOk c:=by
 unfold cntE;constructor
 ·intro h
  split at h
  ·cases h
  split at h
  ·cases h
  split at h
  ·cases h
  rename_i h1 h2 h3
  split at h
  ·cases h
  split at h
  ·cases h
  rename_i h4 h5
  refine⟨yo,yo,yo,fB.1 (by simpa using h3),?_⟩;have h5:(c.acc.length:Int)=lU c.idx c.per:=by simpa using h5
  unfold kR at h4;unfold lU at h5;rcases hc:uD c.idx c.per c.idx.length with _|x
  ·rw[hc]at h4;simp at h4
  rw[hc]at h5;simp only at h5;congr 1;omega
 intro h;have h4:=mQ h.size;rw[if_neg (by have:=h.k1;have:=h.k6;omega),if_neg (by have:=h.pl;omega),if_neg (by rw[fB.2 h.pos];simp),if_neg (by rw[h4.2];simp),if_neg (by rw[h4.1];simp)]
def pK (B:Nat)(w:World)(v:Value)(c:CntV):Prop:=∃vi vp va,v=.agg #[vi,vp,va]/\Row B w vi (ints c.idx)/\Row B w vp (ints c.per)/\Row B w va (bls c.acc)
theorem pK.kept {B:Nat}{c:CntV}(h:pK B w v c)(hg:w.grownBy w' none):pK B w' v c:=by
 obtain⟨vi,vp,va,rfl,h1,h2,h3⟩:=h;exact⟨vi,vp,va,rfl,h1.kept hg yq,h2.kept hg yq,h3.kept hg yq⟩
theorem xZ {x0 x1 x2:Value}{m:Nat×Nat}(h:w.heap[p]?=some (.cells #[x0,x1,x2] e m)):w.cell? ⟨p,0,none⟩=some x0/\w.cell? ⟨p,1,none⟩=some x1/\w.cell? ⟨p,2,none⟩=some x2:=by
 have c0:=zJ h 0;have c1:=zJ h 1;have c2:=zJ h 2;exact⟨by simpa using c0,by simpa using c1,by simpa using c2⟩
theorem uE.boolQ {b off:Nat}(h:uE w b off (bls bs))(i:Nat)(hi:i<bs.length):w.cell? ⟨b,off+i,none⟩=some (.bool (bs.getD i false)):=by
 rw[h.map (f:=Value.bool) i hi,List.getD_eq_getElem?_getD,List.getElem?_eq_getElem hi];rfl
theorem oY {r:Nat}(h1:c<=2000)(h2:r<=4000):IntKind.i64.wrap ((c:Int)*(r:Int))=((c*r:Nat):Int)/\wrap64 ((c:Int)*(r:Int))=((c*r:Nat):Int)/\c*r<=8000000:=by
 have h3:=Nat.mul_le_mul h1 h2;have e:(c:Int)*(r:Int)=((c*r:Nat):Int):=yq
 rw[e];exact⟨wK yo,IntWalk.wrap64_in _ yo,yo⟩
theorem qFN (B:Nat)(w:World)(vi vp va:Value)(idx per:List Int)(hi:Row B w vi (ints idx))(hp:Row B w vp (ints per))(hl:per.length=idx.length)(a8:PosC idx per)(a7:1<=idx.length):Calls Tryz.prog 28 #[.agg #[vi,vp,va]] w fun e w'=>e=.returned (.tuple #[.int .i64 (lU idx per),.bool (kR idx per)])/\w.grownBy w' none:=by
 obtain⟨ib,io,ic,rfl,_,i1,i2,ir⟩:=hi.some_ (by rw[zL];omega);obtain⟨pb,po,pc,rfl,_,p1,p2,pr⟩:=hp.some_ (by rw[zL];omega);rw[zL]at i1 p1⊢;rw[zL,hl];rw[hl]at p1;unfold maxLen at i2 p2;obtain⟨n,hn⟩:=Nm idx.length;rw[<-hn]at i1 p1⊢;obtain⟨w1,h4⟩:=Nm (w.alloc (.cells #[.slice (some ⟨ib,io,none⟩) n ic,.slice (some ⟨pb,po,none⟩) n pc,va] 35));have h7:w.grownBy w1 none:=by rw[h4];exact Ga w _ none
 have H0:=heap_alloc_new w (.cells #[.slice (some ⟨ib,io,none⟩) n ic,.slice (some ⟨pb,po,none⟩) n pc,va] 35);obtain⟨P,hP⟩:=Nm w.heap.size;rw[<-h4,<-hP]at H0;obtain⟨q0,q1,q2⟩:=xZ H0
 have a6:Hid (∀a,a<n->∃i p:Nat,w1.cell? ⟨ib,io+a,none⟩=some (.int .i64 (i:Int))/\w1.cell? ⟨pb,po+a,none⟩=some (.int .i64 (p:Int))/\idx.getD a 0=(i:Int)/\per.getD a 0=(p:Int)):=Kh (fun a ha=>by
  have h1:=a8 a yo;have h2:=zN (ir.int a yo) h7;have h3:=zN (pr.int a yo) h7;obtain⟨i,ei⟩:∃i:Nat,idx.getD a 0=(i:Int):=⟨(idx.getD a 0).toNat,yo⟩;obtain⟨p,ep⟩:∃p:Nat,per.getD a 0=(p:Int):=⟨(per.getD a 0).toNat,yo⟩;rw[ei]at h2;rw[ep]at h3
  exact⟨i,p,h2,h3,ei,ep⟩)
 obtain⟨h9,H9,a3,HN⟩:=Kd h7 h4 hP hn;obtain⟨rn,h5⟩:=Nm (lU idx per);obtain⟨rb,h6⟩:=Nm (kR idx per);rw[<-h5,<-h6];have a1:=Kh h5;have a2:=Kh h6
 have H2:Hid (∀a,a<=n->uD idx per a=none->rn=0/\rb=false):=Kh (fun a ha h=>by
  obtain⟨h1,h2⟩:=iD h yo
  exact⟨by rw[h5,h1],by rw[h6,h2]⟩)
 clear hi hp hl a8 ir pr hn h4 h7 H0 hP q2 h5 h6;go_enter Tryz.func28,Tryz.ntmps28;go_upto_region 1 with fail;rw[<-H9.out,<-a3.out];go_wp2
 go_loopg [4,5,9] n (fun gh a4 a5 a9 wr=>∃a c q:Nat,gh+a=n/\a9=.int .i64 a/\a4=.int .i64 (c:Int)/\uD idx per a=some c/\wr=w1.drewN q)
 case atStart=>exact⟨0,1,0,rfl,rfl,rfl,rfl,rfl⟩
 obtain⟨a,c,q,H5,rfl,rfl,hc,rfl⟩:=hrel;have H3:=Kh H5;have HC:=Kh hc;have H6:=qO hc;clear H5 hc;by_cases ha:a<n
 ·have H7:(a:Int)<n:=yo
  obtain⟨i,p,ci,cp,ei,ep⟩:=a6.out a ha;have h8:=Kh (iT HC.out ei ep);clear ei ep;by_cases h1:2000<(i:Int)
  ·have HF:=Kh (H2.out (a+1) yo (by rw[h8.out,if_pos yo]))
   go_wp2;refine bodyPost_ret (v:=.tuple #[.int .i64 0,.bool false]) (by simp[results,Tryz.results28,go_sem]) rfl ?_;exact⟨by rw[HF.out.1,HF.out.2],zE h9.out (zT w1 _ none)⟩
  by_cases h2:2000<(p:Int)
  ·have HF:=Kh (H2.out (a+1) yo (by rw[h8.out,if_pos yo]))
   go_wp2;refine bodyPost_ret (v:=.tuple #[.int .i64 0,.bool false]) (by simp[results,Tryz.results28,go_sem]) rfl ?_;exact⟨by rw[HF.out.1,HF.out.2],zE h9.out (zT w1 _ none)⟩
  obtain⟨r,hr⟩:=Nm (i+p);have e0:(i:Int)+(p:Int)=(r:Int):=yo
  have H4:r<=4000:=yo
  obtain⟨m,hm⟩:=Nm (c*r);have b0:m<=8000000:=by rw[hm];exact(oY H6 H4).2.2
  have h0:Hid (uD idx per (a+1)=if 2000<m then none else some m):=Kh (by
   rw[h8.out,<-hr,<-hm];by_cases h:2000<m
   ·rw[if_pos h,if_pos (.inr (.inr h))]
   rw[if_neg h,if_neg yo])
  have H1:=Kh (H2.out (a+1) yo);have e1:IntKind.i64.wrap ((i:Int)+(p:Int))=(r:Int):=by rw[e0];exact wK yo
  have e34:=oY H6 H4;rw[<-hm]at e34;have e3:=e34.1;clear e34 hm hr h8 e0;by_cases h3:2000<m
  ·have HF:=Kh (H1.out (by rw[h0.out,if_pos h3]))
   have H8:2000<(m:Int):=(by clear e1 e3;omega);go_wp2
   go_quiet (fail)
   go_wp2;refine bodyPost_ret (v:=.tuple #[.int .i64 0,.bool false]) (by simp[results,Tryz.results28,go_sem]) rfl ?_;exact⟨by rw[HF.out.1,HF.out.2],zE h9.out (by first|exact zT w1 _ none|exact zE (zT w1 _ none) (zT _ _ none))⟩
  have a0:Hid (uD idx per (a+1)=some m):=Kh (by rw[h0.out,if_neg h3]);have H8:¬2000<(m:Int):=(by clear e1 e3;omega);clear h0;go_wp2
  go_quiet (fail)
  clear e1 e3;go_wp2;go_roundg (n-(a+1))
  case measure=>have:=H3.out;omega
  exact⟨a+1,m,_,by have:=H3.out;omega,by go_num,rfl,a0.out,by first|rfl|exact World.drewN_drewN _ _ _⟩
 have H7:¬(a:Int)<n:=yo
 have HE:Hid (rn=c/\rb=true):=Kh (by
  have:=HC.out;rw[show a=idx.length by have:=H3.out;have:=HN.out;omega]at this;obtain⟨h1,h2⟩:=mQ this
  exact⟨by rw[a1.out,h1],by rw[a2.out,h2]⟩)
 go_wp2;refine bodyPost_ret (v:=.tuple #[.int .i64 (c:Int),.bool true]) (by simp[results,Tryz.results28,go_sem]) rfl ?_;exact⟨by rw[HE.out.1,HE.out.2],zE h9.out (zT w1 _ none)⟩
theorem dN (h:400<t.length):tJ t=3:=by rw[tJ,if_pos h]
theorem qS (h:¬400<t.length)(hx:x<t.length)(hb:gL t.length (t.getD x [])=false):tJ t=4:=by
 rw[tJ,if_neg h,if_neg yo,if_neg];intro ha;have:=List.all_eq_true.1 ha t[x] (List.getElem_mem hx);rw[List.getD,List.getElem?_eq_getElem hx]at hb;rw[Option.getD_some,this]at hb;cases hb
theorem fQ (h:¬400<t.length)(h0:0<t.length)(ha:∀x,x<t.length->gL t.length (t.getD x [])=true):tJ t=0:=by
 rw[tJ,if_neg h,if_neg yo,if_pos];rw[List.all_eq_true];intro r hr;obtain⟨x,hx,rfl⟩:=List.getElem_of_mem hr;have:=ha x hx
 rwa [List.getD,List.getElem?_eq_getElem hx]at this
theorem qAQ (h:r.length≠n):gL n r=false:=by simp[gL,h]
theorem jE (hy:y<r.length)(h:r.getD y 0<0\/n<=r.getD y 0):gL n r=false:=by
 rw[<-Bool.not_eq_true];intro hr;have:=(pB.1 hr).2 y hy;omega
def qQC (t:List (List Int))(k:Nat):Prop:=∀x,x<k->gL t.length (t.getD x [])=true
def qOY (t:List (List Int))(x y z:Nat):Prop:=entN t (entN t x y) z=entN t x (entN t y z)
def fI (t:List (List Int))(gs:List Nat):Prop:=∀g∈gs,oZ t g
open Classical in
noncomputable def eG (t:List (List Int))(gs:List Nat):Bool:=decide (fI t gs)
theorem eE (h:fI t gs):eG t gs=true:=by simp[eG,h]
theorem qBN (hk:k<gs.length)(h:¬oZ t (gs.getD k 0)):eG t gs=false:=by
 simp only[eG,decide_eq_false_iff_not];intro ha;refine h (ha _ ?_);simp only[List.getD,List.getElem?_eq_getElem hk];exact List.getElem_mem hk
def qRY (t:List (List Int))(bs:List Bool):Prop:=∀x,bs.getD x false=true->oZ t x
def qQE (t:List (List Int))(gs:List Nat)(k:Nat):Prop:=∀i,i<k->oZ t (gs.getD i 0)
def qUG (t:List (List Int))(g k:Nat):Prop:=∀x,x<k->∀y,y<t.length->qOY t x g y
def qUH (t:List (List Int))(x g k:Nat):Prop:=∀y,y<k->qOY t x g y
theorem qOD (h:qQE t gs gs.length):fI t gs:=by
 intro g hg;obtain⟨i,hi,rfl⟩:=List.getElem_of_mem hg;have:=h i hi;simpa [List.getD,List.getElem?_eq_getElem hi] using this
theorem dB (B:Nat)(w:World)(v gv:Value)(t:List (List Int))(gs:List Nat)(hB:B<=w.heap.size)(h:Mat B w v t)(hs:Shape t)(hg:Row B w gv (nats gs))(a9:∀g∈gs,g<t.length):Calls Tryz.prog 87 #[v,gv] w fun e w'=>e=.returned (.bool (eG t gs))/\w.grownBy w' none:=by
 obtain⟨b,off,cap,RB,RO,RC,rfl,e2,c9,hq⟩:=h.sq hs;have d9:cap<=9223372036854775807:=jl c9
 have a4:=hg.len_le;rw[zV]at a4;unfold maxLen at a4;obtain⟨ga,gc,rfl⟩:=hg.shape;rw[zV];have c6:=hs.pos;have e0:=hs.le;obtain⟨HQ,HS,b6,d5⟩:=Kd hq hs hg a9;clear hq hs h hg a9;go_enter Tryz.func87,Tryz.ntmps87;go_wp2_with (at_make;refine pL rfl _ _ _ rfl xK rfl _ _ _ _ t.length rfl rfl rfl rfl ?b1 ?b2 ?_;(case b1=>omega);(case b2=>(unfold maxLen;omega));intro w1 H5 a8 b9);rw[<-qQ]at H5;have b8:=Kh H5;clear H5
 go_loopg [18] gs.length (fun g i wr=>∃(k:Nat) (bs:List Bool),g+k=gs.length/\i=.int .i64 k/\bs.length=t.length/\Arr wr w.heap.size 4 (bls bs)/\w.grownBy wr none/\qRY t bs/\qQE t gs k)
 case atStart =>
  refine⟨0,_,rfl,rfl,yq,b8.out,a8,fun x hx=>?_,fun i hi=>absurd hi yo⟩;exfalso;simp[List.getD,List.getElem?_replicate]at hx
  split at hx<;>simp at hx
 clear b8 a8 b9;obtain⟨k,bs,a5,rfl,b0,h6,H1,a0,a3⟩:=hrel;obtain⟨H9,H2,h1,H6,H8⟩:=Ke a5 b0 h6 a0 a3;have c2:=h6.lt;clear a5 b0 h6 a0 a3;by_cases hk:k<gs.length
 ·have e1:(k:Int)<gs.length:=yo
  obtain⟨gb,go,gcap,e,_,_,_,H3⟩:=b6.out.some_ (by rw[zV];omega);simp only[Value.slice.injEq]at e;obtain⟨rfl,-,-⟩:=e;have b5:=b6.out.kept H1 yq;obtain⟨gb',go',gcap',e,_,_,_,H3⟩:=b5.some_ (by rw[zV];omega);simp only[Value.slice.injEq,Option.some.injEq,Addr.mk.injEq,and_true]at e;obtain⟨⟨rfl,rfl⟩,-,-⟩:=e;have a6:=H3.nat k hk;have h2:=qRO d5.out hk;obtain⟨x,hx⟩:=Nm (gs.getD k 0);rw[<-hx]at a6 h2;have c1:(x:Int)<t.length:=yo;have H4:=h1.out.bool x (by rw[H2.out];exact h2);have c8:=h1.out.frozen x;have HX:=Kh hx;clear H3 hx b5;cases hbv:bs.getD x false
  ·rw[hbv]at H4
   have h3:=h1.out.bool_set x (by rw[H2.out];exact h2) true;have h5:=zH wr ⟨w.heap.size,x,none⟩ (.bool true);have b7:=Kh hbv;clear hbv;go_wp2
   generalize hW:wr.setCell ⟨w.heap.size,x,none⟩ (.bool true)=w2 at h3 h5
   have h4:w.grownBy w2 none:=zE H1 h5;have h7:=Kh (HQ.out.kept h4 yq);have H7:=Kh h3;have HW:=Kh hW;clear h3 h5 hW H4 c8 a6;have d7:=h7.out.hd x h2
   go_loopg [31] t.length (fun g i wr=>∃k m:Nat,g+k=t.length/\i=.int .i64 k/\qUG t x k/\wr=w2.drewN m)
   case atStart=>exact⟨0,0,rfl,rfl,fun x hx=>absurd hx yo,rfl⟩
   obtain⟨a,m,a7,rfl,h9,rfl⟩:=hrel;have d6:=Kh a7;have b4:=Kh h9;clear a7 h9;by_cases ha:a<t.length
   ·have d2:(a:Int)<t.length:=yo
    have e3:=h7.out.hd a ha;have d0:=h7.out.el a x ha h2;obtain⟨p,hp⟩:=Nm (entN t a x);have a1:p<t.length:=(by rw[hp];exact qK HS.out ha h2);have c7:(p:Int)<t.length:=yo;rw[<-hp]at d0;have d8:=h7.out.hd p a1;have HP:=Kh hp;clear hp;go_wp2
    go_loopg [47] t.length (fun g i wr=>∃k m:Nat,g+k=t.length/\i=.int .i64 k/\qUH t a x k/\wr=w2.drewN m)
    case atStart=>exact⟨0,m,rfl,rfl,fun x hx=>absurd hx yo,rfl⟩
    obtain⟨y,m,a2,rfl,h9,rfl⟩:=hrel;have d4:=Kh a2;have b3:=Kh h9;clear a2 h9;by_cases hy:y<t.length
    ·have h8:(y:Int)<t.length:=yo
     have c0:=h7.out.el x y h2 hy;have c5:=h7.out.el p y a1 hy;obtain⟨q,hq⟩:=Nm (entN t x y);have c4:q<t.length:=(by rw[hq];exact qK HS.out h2 hy);have c3:(q:Int)<t.length:=yo;rw[<-hq]at c0;have d1:=h7.out.el a q ha c4;obtain⟨r,hr⟩:=Nm (entN t p y);obtain⟨s,hs⟩:=Nm (entN t a q);rw[<-hr]at c5;rw[<-hs]at d1;have H0:qOY t a x y↔r=s:=by rw[qOY,<-HP.out,<-hq,<-hr,<-hs]
     have HA:=Kh H0;clear hq hr hs H0;by_cases hrs:r=s
     ·subst hrs
      have ht:((r:Int) != (r:Int))=false:=yq
      go_wp2
      go_quiet (fail)
      go_wp2;go_roundg (t.length-(y+1))
      case measure=>have:=d4.out;omega
      refine⟨y+1,_,yo,by go_num,fun z' hz'=>?_,rfl⟩;rcases Nat.lt_succ_iff_lt_or_eq.1 hz' with hz'|rfl
      ·exact b3.out z' hz'
      exact HA.out.2 yq
     have ht:((r:Int) != (s:Int))=true:=by rw[bne_iff_ne];omega
     have d3:=Kh hrs;clear hrs;go_wp2
     go_quiet (fail)
     go_wp2;go_ret;refine⟨yQ (qBN hk (fun hl=>d3.out (HA.out.1 ?_))).symm,uG h4 rfl rfl rfl rfl⟩;rw[<-HX.out]at hl;exact hl a y ha hy
    go_wp2;go_roundg (t.length-(a+1))
    case measure=>have:=d6.out;omega
    refine⟨a+1,m,yo,by go_num,fun y' h8=>?_,rfl⟩;rcases Nat.lt_succ_iff_lt_or_eq.1 h8 with h8|rfl
    ·exact b4.out y' h8
    exact fun z' hz'=>b3.out z' yo
   have h0:Hid (oZ t x):=Kh (fun a' y' d2 h8=>b4.out a' yo y' h8);go_wp2;go_roundg (gs.length-(k+1))
   case measure=>have:=H9.out;omega
   refine⟨k+1,bs.set x true,yo,by go_num,by rw[List.length_set];exact H2.out,H7.out.of_heap rfl,uG h4 rfl rfl rfl rfl,fun y hy=>?_,fun i hi=>?_⟩
   ·by_cases e:x=y
    ·subst e;exact h0.out
    rw[getD_set_ne _ _ _ _ _ e]at hy;exact H6.out y hy
   rcases Nat.lt_succ_iff_lt_or_eq.1 hi with hi|rfl
   ·exact H8.out i hi
   rw[<-HX.out];exact h0.out
  rw[hbv]at H4;have b7:=Kh hbv;clear hbv;go_wp2;go_roundg (gs.length-(k+1))
  case measure=>have:=H9.out;omega
  refine⟨k+1,bs,yo,by go_num,H2.out,h1.out,H1,H6.out,fun i hi=>?_⟩;rcases Nat.lt_succ_iff_lt_or_eq.1 hi with hi|rfl
  ·exact H8.out i hi
  rw[<-HX.out];exact H6.out x b7.out
 go_wp2;go_ret;refine⟨yQ (eE (qOD ?_)).symm,H1⟩;have:k=gs.length:=by have:=H9.out;omega
 rw[<-this];exact H8.out
structure Sp (w0 w:World)(bi bm g n:Nat)(mv:Value)(bs:List Bool)(made:List Nat):Prop where
 box1:w.heap[bi]?=some (.cells #[.slice (some ⟨g,0,none⟩) n n] 26 (0,0))
 box2:w.heap[bm]?=some (.cells #[mv] 22 (0,0))
 own:w.ownsRow w0.heap.size 3 1 mv made.length (nats made)
 shape:∃sa sc,mv=.slice sa made.length sc
 arr:Arr w g 4 (bls bs)
 len:bs.length=n
 cnt:made.length=bs.count true
 mem:∀x,x<n->(bs.getD x false=true↔x∈made)
 lt:∀x∈made,x<n
 lo:w0.heap.size<=bi/\w0.heap.size<=bm/\w0.heap.size<=g
 fr:w0.grownBy w none
theorem Sp.made_le (h:Sp w0 w bi bm g n mv bs made):made.length<=n:=by
 rw[h.cnt,<-h.len];exact List.count_le_length
structure Keep (w w':World)(bm g:Nat)(mv mv':Value):Prop where
 size:w.heap.size<=w'.heap.size
 k1:∀k,k<w.heap.size->k≠g->k≠bm->mv.ownBlock≠some k->w'.heap[k]?=w.heap[k]?
 k2:mv'.ownBlock=mv.ownBlock\/((∀k,k<w.heap.size->k≠g->k≠bm->w'.heap[k]?=w.heap[k]?)/\∀k,mv'.ownBlock=some k->w.heap.size<=k)
def pV (made:List Nat)(x:Nat):List Nat:=if x∈made then made else made++[x]
theorem oJ :y∈pV made x↔y∈made\/y=x:=by
 unfold pV
 split
 ·constructor
  ·exact .inl
  rintro (h|rfl)
  ·exact h
  assumption
 simp
theorem mV (made:List Nat)(x:Nat):∃r,pV made x=made++r:=by
 unfold pV
 split
 ·exact⟨[],yq⟩
 exact⟨[x],rfl⟩
def qTO (w0 w:World)(bi bm g n:Nat)(mv:Value)(made:List Nat)(x:Nat)(e:Ending)(w':World):Prop :=
 e=.returned (.tuple #[])/\∃bs' mv',Sp w0 w' bi bm g n mv' bs' (pV made x)/\Keep w w' bm g mv mv'
theorem eZ (hx:x<bs.length)(h:bs.getD x false=false):(bs.set x true).count true=bs.count true+1:=by
 rw[List.count_set hx];have:bs[x]=false:=by simpa [List.getD,List.getElem?_eq_getElem hx] using h
 simp[this]
theorem Sp.set {w3:World}{sa:Option Addr}{sc:Nat}(h:Sp w0 w bi bm g n mv bs made)(hx:x<n)(hb:bs.getD x false=false)(h1:w3.heap[bi]?=some (.cells #[.slice (some ⟨g,0,none⟩) n n] 26 (0,0)))(h2:w3.heap[bm]?=some (.cells #[.slice sa (made.length+1) sc] 22 (0,0)))(h3:w3.ownsRow w0.heap.size 3 1 (.slice sa (made.length+1) sc) (made.length+1) (nats made++[.int .i64 (x:Int)]))(h4:Arr w3 g 4 (bls (bs.set x true)))(h5:w0.grownBy w3 none)(h6:Keep w w3 bm g mv (.slice sa (made.length+1) sc)):qTO w0 w bi bm g n mv made x (.returned (.tuple #[])) w3:=by
 have h0:¬x∈made:=fun hm=>by rw[(h.mem x hx).2 hm]at hb;cases hb
 refine⟨rfl,bs.set x true,_,⟨h1,h2,?_,?_,h4,by rw[List.length_set];exact h.len,?_,fun y hy=>?_,fun y hy=>?_,h.lo,h5⟩,h6⟩
 ·rw[pV,if_neg h0,List.length_append,qF];exact h3
 ·rw[pV,if_neg h0,List.length_append];exact⟨_,_,rfl⟩
 ·rw[pV,if_neg h0,List.length_append,eZ (by rw[h.len];exact hx) hb,h.cnt];rfl
 ·rw[oJ]
  by_cases e:x=y
  ·subst e
   rw[kO _ _ _ _ (by rw[h.len];exact hx)];simp
  rw[getD_set_ne _ _ _ _ _ e,h.mem y hy];exact⟨.inl,fun hh=>hh.elim id (fun e'=>absurd e'.symm e)⟩
 rcases oJ.1 hy with hy|rfl
 ·exact h.lt y hy
 exact hx
theorem qEI (w0 w:World)(bi bm g n x:Nat)(mv:Value)(bs:List Bool)(made:List Nat)(hx:x<n)(hn:n<=400)(h:Sp w0 w bi bm g n mv bs made):Calls Tryz.prog 99 #[.int .i64 (x:Int),.pointer (some ⟨bi,0,none⟩),.pointer (some ⟨bm,0,none⟩)] w (qTO w0 w bi bm g n mv made x):=by
 have H:=Kh h;have b5:=h.made_le;obtain⟨sa,sc,rfl⟩:=h.shape;have ci:=zJ h.box1 0;have cx:=h.arr.bool x (by rw[h.len];exact hx);have fx:=h.arr.frozen x;simp only[List.getElem_toArray,List.getElem_cons_zero]at ci;have b4:(x:Int)<n:=yo
 clear h;cases hb:bs.getD x false
 ·rw[hb]at cx
  have HB:=Kh hb;clear hb;have h8:=H.out.arr.bool_set x (by rw[H.out.len];exact hx) true;have h4:=zH w ⟨g,x,none⟩ (.bool true);go_enter Tryz.func99,Tryz.ntmps99;go_upto_region 2 with fail
  generalize hW:w.setCell ⟨g,x,none⟩ (.bool true)=w1 at h8 h4
  have HW:=Kh hW;have b6:=H.out.lo;have a4:=zE H.out.fr h4 (by simp;omega);have a0:=H.out.box2;have h9:=H.out.own
  have H1:=zD a0 h4 (fun e=>by
   have:=Oj e
   exact(H.out.arr.type_ne a0 jd) this)
  have H4:=zD H.out.box1 h4 (fun e=>(H.out.arr.type_ne H.out.box1 jd) (Oj e))
  have h0:=h9.kept h4 (.inr (fun e=>by
   obtain⟨cur,rest,hh,_⟩:=H.out.arr
   exact zR h9 hh jd e))
  have cm:=zJ H1 0;simp only[List.getElem_toArray,List.getElem_cons_zero]at cm;obtain⟨a8,a7,H5,a1⟩:=Kd H4 H1 h8 h4;clear hW ci cx fx h8 h4 a0 h9 H4 H1;go_wp2_with (at_builtin;refine iE rfl _ _ _ rfl yJ w0.heap.size _ made.length (nats made) rfl h0 _ rfl rfl ?c1 ?c2 ?c3 ?_)
  case c1=>unfold maxLen;omega
  case c2=>omega
  case c3=>exact a4.size
  intro sa' sc' w3 h7 H2 b0 a3;have H8:=zR h0 a7.out jd;have h5:=zD a7.out H2 H8;have b7:=zB h5 0;have b1:=zJ h5 0;simp only[List.getElem_toArray,List.getElem_cons_zero]at b1;have H3:=zD a8.out H2 (zR h0 a8.out jd)
  have h6:=H5.out.kept H2 (by
   obtain⟨cur,rest,hh,_⟩:=H5.out
   exact zR h0 hh jd)
  have H9:=zE a4 H2 (fun k e=>(h0.lt k e).1);obtain⟨a9,H7,a5,a6,H6,b3⟩:=Kf H3 h5 h6 h7 H2 a3;clear H3 h5 h6 h7 H2 h0 cm a3;go_wp2
  go_end0
  have H0:=zH w3 ⟨bm,0,none⟩ (.slice sa' (made.length+1) sc');have a2:=a1.out.size;refine H.out.set hx HB.out (sa:=sa') (sc:=sc') ?_ (heap_setCell_same w3 bm 0 _ _ _ H7.out) ?_ ?_ (zE H9 H0 (by simp;omega)) ⟨Nat.le_trans a2 (Nat.le_trans H6.out.size H0.size),fun k hk h1 h2 h3=>?_,?_⟩
  ·refine zD a9.out H0 (fun e=>?_)
   have e':=Oj e;have h1:=a9.out;rw[<-e',H7.out]at h1;simp at h1
  ·exact a6.out.kept H0 (.inr (zR a6.out H7.out jd))
  ·exact a5.out.kept H0 (fun e=>(a5.out.type_ne H7.out jd) (Oj e).symm)
  ·exact(H0.block k (by have:=H6.out.size;omega) (fun e=>h2 (Oj e))).trans ((H6.out.block k yo (fun e=>h3 e.symm)).trans (a1.out.block k hk (fun e=>h1 (Oj e))))
  rcases b3.out with e|⟨e1,e2⟩
  ·exact .inl e
  exact .inr ⟨fun k hk h1 h2=>(H0.block k (by have:=H6.out.size;omega) (fun e=>h2 (Oj e))).trans ((e1.block k yo yq).trans (a1.out.block k hk (fun e=>h1 (Oj e)))),fun k hk=>Nat.le_trans a2 (e2 k hk)⟩
 rw[hb]at cx;have HB:=Kh hb;clear hb;go_enter Tryz.func99,Tryz.ntmps99;go_wp2
 go_end0
 have b2:pV made x=made:=by rw[pV,if_pos ((H.out.mem x hx).1 HB.out)]
 refine⟨rfl,bs,_,by rw[b2];exact H.out,Nat.le_refl _,fun _ _ _ _ _=>rfl,.inl rfl⟩
theorem jJ {size:Nat}(h:w.ownsRow base e size v n xs)(hb:∀k,v.ownBlock=some k->w'.heap[k]?=w.heap[k]?):w'.ownsRow base e size v n xs:=by
 refine⟨h.1,?_⟩;rcases h.2 with h2|⟨g,cap,cur,rfl,h2,h3,h4⟩
 ·exact .inl h2
 exact .inr ⟨g,cap,cur,rfl,h2,(hb g rfl).trans h3,h4⟩
theorem Arr.of_block {e:TypeId}(h:Arr w g e xs)(hb:w'.heap[g]?=w.heap[g]?):Arr w' g e xs:=by
 obtain⟨cur,rest,h,hc⟩:=h;exact⟨cur,rest,hb.trans h,hc⟩
def qPP (v u:Value):Prop:=∀k,v.ownBlock=some k->u.ownBlock≠some k
theorem Keep.gens {m:Nat}(hk:Keep w w' bm g mv a9)(h:Sp w0 w bi bm g n mv bs made)(hg:w.ownsRow base 3 1 gv m xs)(ha:qPP gv mv):w'.ownsRow base 3 1 gv m xs/\qPP gv a9:=by
 have h2:gv.ownBlock≠some g:=by
  obtain⟨cur,rest,hh,_⟩:=h.arr;exact zR hg hh jd
 have h0:gv.ownBlock≠some bm:=zR hg h.box2 jd;refine⟨jJ hg (fun k e=>hk.k1 k (hg.lt k e).2 (fun e'=>h2 (by rw[e,e'])) (fun e'=>h0 (by rw[e,e'])) (ha k e)),fun k e=>?_⟩;rcases hk.k2 with h1|⟨_,h1⟩
 ·rw[h1];exact ha k e
 intro e';have:=h1 k e';have:=(hg.lt k e).2;omega
theorem Keep.pre {kb:Nat}{a8:Value}{a7:List Bool}{a9 pre:List Nat}(hk:Keep w w' bm g mv a8)(h:Sp w0 w bi bm g n mv bs made)(h':Sp w0 w' bi bm g n a8 a7 a9)(hp:∃r,a9=pre++r)(ha:Arr w kb 3 (nats pre)):Arr w' kb 3 (nats pre):=by
 have h1:kb≠g:=by
  rintro rfl;obtain⟨cur,rest,hh,_⟩:=h.arr;exact(ha.type_ne hh jd) rfl
 have h0:kb≠bm:=ha.type_ne h.box2 jd;rcases hk.k2 with e|⟨e,_⟩
 ·by_cases hkb:mv.ownBlock=some kb
  ·have h2:=e.trans hkb
   obtain⟨r,rfl⟩:=hp;have ho:=h'.own;rcases ho.2 with ⟨rfl,_⟩|⟨g',cap',cur',rfl,_⟩
   ·simp[Value.ownBlock]at h2
   have eg:g'=kb:=by simpa [Value.ownBlock] using h2
   subst eg;have:=Arr.of_owns ho;rw[fZ]at this;exact this.front
  exact ha.of_block (hk.k1 kb ha.lt h1 h0 hkb)
 exact ha.of_block (e kb ha.lt h1 h0)
structure GInv (t:List (List Int))(gs made:List Nat)(k:Nat):Prop where
 gen:∀x∈made,Gen t gs x
 all:∀x,x<k->x∈made
 lt:∀g∈gs,g<t.length
 le:gs.length<=k
theorem GInv.add (h:GInv t gs made k)(hx:x∈made)(hy:y∈made):GInv t gs (pV made (entN t x y)) k :=
 ⟨fun z hz=>by
  rcases oJ.1 hz with hz|rfl
  ·exact h.gen z hz
  ·exact .mul x y (h.gen x hx) (h.gen y hy),fun z hz=>oJ.2 (.inl (h.all z hz)),h.lt,h.le⟩
theorem GInv.next (h:GInv t gs made k)(hk:k∈made):GInv t gs made (k+1) :=
 ⟨h.gen,fun x hx=>by
  rcases Nat.lt_succ_iff_lt_or_eq.1 hx with hx|rfl
  ·exact h.all x hx
  ·exact hk,h.lt,by have:=h.le;omega⟩
theorem GInv.new (h:GInv t gs made k)(hk:k<t.length):GInv t (gs++[k]) (pV made k) (k+1) :=
 ⟨fun z hz=>by
  rcases oJ.1 hz with hz|rfl
  ·exact(h.gen z hz).mono (fun g hg=>List.mem_append_left _ hg)
  ·exact .base _ yq,fun x hx=>by
  rw[oJ]
  rcases Nat.lt_succ_iff_lt_or_eq.1 hx with hx|rfl
  ·exact .inl (h.all x hx)
  ·exact .inr rfl,fun g hg=>by
  rcases List.mem_append.1 hg with hg|hg
  ·exact h.lt g hg
  ·simp at hg;omega,by have:=h.le;simp;omega⟩
def qPH (w:World)(t:List (List Int))(e:Ending)(w':World):Prop :=
 ∃(sa:Option Addr) (sc:Nat) (gs:List Nat),e=.returned (.slice sa gs.length sc)/\Row w'.heap.size w' (.slice sa gs.length sc) (nats gs)/\(∀g∈gs,g<t.length)/\(∀x,x<t.length->Gen t gs x)/\w.grownBy w' none
structure SG (w w':World)(bi bm g:Nat)(t:List (List Int))(gv mv:Value)(bs:List Bool)(gs made:List Nat)(k:Nat):Prop where
 sp:Sp w w' bi bm g t.length mv bs made
 own:w'.ownsRow w.heap.size 3 1 gv gs.length (nats gs)
 ap:qPP gv mv
 inv:GInv t gs made k
theorem SG.add {w1 w2:World}{a8:List Bool}(h:SG w w1 bi bm g t gv mv bs gs made k)(hx:x∈made)(hy:y∈made)(h1:Sp w w2 bi bm g t.length a9 a8 (pV made (entN t x y)))(hk:Keep w1 w2 bm g mv a9):SG w w2 bi bm g t gv a9 a8 gs (pV made (entN t x y)) k :=
 ⟨h1,(hk.gens h.sp h.own h.ap).1,(hk.gens h.sp h.own h.ap).2,h.inv.add hx hy⟩
theorem qFJ {l:List Nat}(hi:i<l.length):l.getD i 0∈l:=by
 simp only[List.getD,List.getElem?_eq_getElem hi];exact List.getElem_mem hi
theorem qAK (B:Nat)(w:World)(v:Value)(t:List (List Int))(hB:B<=w.heap.size)(h:Mat B w v t)(hs:Shape t):Calls Tryz.prog 88 #[v] w (qPH w t):=by
 obtain⟨b,off,cap,RB,RO,RC,rfl,g4,f4,hq⟩:=h.sq hs;have f8:cap<=9223372036854775807:=jl f4
 have e7:=hs.pos;have b5:=hs.le;have HQ:=Kh hq;have HS:=Kh hs;clear hq hs h;go_enter Tryz.func88,Tryz.ntmps88;go_wp2_with (at_make;refine pL rfl _ _ _ rfl xK rfl _ _ _ _ t.length rfl rfl rfl rfl ?b1 ?b2 ?_;(case b1=>omega);(case b2=>(unfold maxLen;omega));intro w1 a3 b6 c0);rw[<-qQ]at a3;rw[zW]at a3 c0;have d3:=zD (heap_alloc_new w (.cells #[.slice none 0 0] 22)) b6;have c8:=zI (Ga w (.cells #[.slice none 0 0] 22) none) b6
 have d5:Sp w (w1.alloc (.cells #[.slice (some ⟨w.heap.size+1,0,none⟩) t.length t.length] 26)) w1.heap.size w.heap.size (w.heap.size+1) t.length (.slice none 0 0) (List.replicate t.length false) []:=by
  have hA:=Ga w1 (.cells #[.slice (some ⟨w.heap.size+1,0,none⟩) t.length t.length] 26) none;refine⟨heap_alloc_new w1 _,zD d3 hA,World.ownsRow_nil _ _ _ _,⟨none,0,rfl⟩,a3.kept hA yq,yq,by simp[List.count_replicate],fun x hx=>?_,yq,⟨yo,Nat.le_refl _,yo⟩,zI c8 hA⟩;simp[List.getD,List.getElem?_replicate,hx]
 have d8:=Kh d5;clear d5 d3 c8 a3 b6
 go_loopg [3,7,18] t.length (fun g gv mul i wr=>∃(k p:Nat) (sa:Option Addr) (sc:Nat) (gs made:List Nat) (mv:Value) (bs:List Bool),g+k=t.length/\gv=.slice sa gs.length sc/\mul=.int .i64 p/\i=.int .i64 k/\p<=made.length /\
   SG w wr w1.heap.size w.heap.size (w.heap.size+1) t (.slice sa gs.length sc) mv bs gs made k)
 case atStart=>exact⟨0,0,none,0,[],[],.slice none 0 0,_,rfl,rfl,rfl,rfl,Nat.le_refl _,d8.out,World.ownsRow_nil _ _ _ _,fun k hk=>by simp[Value.ownBlock]at hk,⟨yq,fun x hx=>absurd hx yo,yq,yq⟩⟩
 clear d8 c0;obtain⟨k,p,sa,sc,gs,made,mv,bs,d0,rfl,rfl,rfl,hp,h6⟩:=hrel;have HG:=Kh d0;have ST:=Kh h6;clear d0 h6;have f0:=ST.out.sp.made_le;have ci:=zJ ST.out.sp.box1 0;simp only[List.getElem_toArray,List.getElem_cons_zero]at ci;by_cases hk:k<t.length
 ·have g1:(k:Int)<t.length:=yo
  have ck:=ST.out.sp.arr.bool k (by rw[ST.out.sp.len];exact hk);have g3:=ST.out.inv.le;cases hbk:bs.getD k false
  ·rw[hbk]at ck
   have g5:=Kh hbk;clear hbk;have h0:=ST.out.own;obtain⟨wo,rfl⟩:=Nm (wr:World);go_wp2_with (at_builtin;refine iE rfl _ _ _ rfl yJ w.heap.size _ gs.length (nats gs) rfl h0 _ rfl rfl ?c1 ?c2 ?c3 ?_)
   case c1=>unfold maxLen;omega
   case c2=>omega
   case c3=>exact ST.out.sp.fr.size
   intro sa1 sc1 w2 h7 H5 f3 a0
   have h5:Hid (Sp w w2 w1.heap.size w.heap.size (w.heap.size+1) t.length mv bs made/\qPP (.slice sa1 (gs.length+1) sc1) mv):=by
    have S:=ST.out.sp;have d4:=ST.out.ap;have n1:=zR h0 S.box1 jd;have n2:=zR h0 S.box2 jd
    have n3:(Value.slice sa gs.length sc).ownBlock≠some (w.heap.size+1):=by
     obtain⟨cur,rest,hh,_⟩:=S.arr;exact zR h0 hh jd
    refine⟨⟨zD S.box1 H5 n1,zD S.box2 H5 n2,jJ S.own (fun q hq=>H5.block q (S.own.lt q hq).2 (fun e=>d4 q e.symm hq)),S.shape,S.arr.kept H5 n3,S.len,S.cnt,S.mem,S.lt,S.lo,zE S.fr H5 (fun x e=>(h0.lt x e).1)⟩,fun q hq=>?_⟩;rcases a0 with e|⟨_,e⟩
    ·rw[e]at hq;exact d4 q hq
    intro e6;have:=e q hq;have:=(S.own.lt q e6).2;omega
   have e0:=Kh h7;clear h0 h7 H5 a0 ci ck;go_wp2_with fail;refine(qEI w w2 w1.heap.size w.heap.size (w.heap.size+1) t.length k mv bs made hk b5 h5.out.1).mono ?_;rintro e w3 ⟨rfl,bs3,mv3,H9,h8⟩
   have H8:SG w w3 w1.heap.size w.heap.size (w.heap.size+1) t (.slice sa1 (gs.length+1) sc1) mv3 bs3 (gs++[k]) (pV made k) (k+1):=by
    have d2:=h8.gens h5.out.1 (show w2.ownsRow w.heap.size 3 1 (.slice sa1 (gs.length+1) sc1) (gs.length+1) (nats (gs++[k])) by rw[qF];exact e0.out) h5.out.2;exact⟨H9,by rw[List.length_append];exact d2.1,d2.2,ST.out.inv.new hk⟩
   have H4:=Kh H8
   have c6:p<=(pV made k).length:=by
    obtain⟨r,hr⟩:=mV made k;rw[hr,List.length_append];omega
   have a1:(gs++[k]).length=gs.length+1:=yq
   have e1:=Kh a1;clear H9 h8 H8 h5 e0 a1;go_wp2
   go_loopg [7] (t.length-p) (fun g mul wr=>∃(p:Nat) (made:List Nat) (mv:Value) (bs:List Bool),g+p=t.length/\mul=.int .i64 p/\p<=made.length /\
     SG w wr w1.heap.size w.heap.size (w.heap.size+1) t (.slice sa1 (gs.length+1) sc1) mv bs (gs++[k]) made (k+1))
   case atStart=>exact⟨p,_,_,_,by have:=H4.out.sp.made_le;omega,rfl,c6,H4.out⟩
   clear H4 c6;obtain⟨p,made,mv,bs,c9,rfl,hp,h6⟩:=hrel;have f6:=Kh c9;have ST:=Kh h6;clear c9 h6;have f0:=ST.out.sp.made_le;have cm:=zJ ST.out.sp.box2 0;simp only[List.getElem_toArray,List.getElem_cons_zero]at cm;obtain⟨ma,mc,a2⟩:=ST.out.sp.shape;rw[a2]at cm;by_cases hpm:p<made.length
   ·obtain⟨kb,f2,f1,b3,H3⟩:=yV (a2 ▸ ST.out.sp.own) yo
    subst f2;have e8:(p:Int)<made.length:=yo;have cp:=H3.nat p hpm;obtain⟨x,hx⟩:=Nm (made.getD p 0);have a5:x∈made:=(by rw[hx];exact qFJ hpm);have H7:=ST.out.sp.lt x a5;rw[<-hx]at cp;unfold maxLen at b3
    have h3:Arr wr kb 3 (nats (made.take (p+1))):=by
     have:=H3;rw[<-List.take_append_drop (p+1) made,fZ]at this;exact this.front
    obtain⟨b9,HX,d7⟩:=Kc h3 hx a5;have c5:(made.take (p+1)).length=p+1:=by rw[List.length_take];omega
    have d9:=Kh c5;have e9:=Kh a2;clear a2 h3 hx a5 H3 c5;obtain⟨wo,rfl⟩:=Nm (wr:World);go_wp2
    go_loopg [47] (p+1) (fun g jv wr=>∃(j:Nat) (made':List Nat) (mv':Value) (bs':List Bool),g+j=p+1/\jv=.int .i64 j/\(∃r,made'=made++r)/\Arr wr kb 3 (nats (made.take (p+1))) /\
      SG w wr w1.heap.size w.heap.size (w.heap.size+1) t (.slice sa1 (gs.length+1) sc1) mv' bs' (gs++[k]) made' (k+1))
    case atStart=>exact⟨0,made,mv,bs,rfl,rfl,⟨[],yq⟩,b9.out,ST.out⟩
    clear cp cm;obtain⟨j,made',mv',bs',d1,rfl,hr,h3,h6⟩:=hrel;obtain⟨f7,ST',HR,h9⟩:=Kd d1 h6 hr h3;clear d1 h6 hr h3;by_cases hj:j<p+1
    ·have cj:=h9.out.nat j (by rw[d9.out];exact hj)
     obtain⟨y,hy⟩:=Nm ((made.take (p+1)).getD j 0);have a4:y∈made:=(by rw[hy];exact List.mem_of_mem_take (qFJ (by rw[d9.out];exact hj)));have H6:=ST.out.sp.lt y a4;rw[<-hy]at cj;have g2:(j:Int)<(p:Int)+1:=yo;have e5:(x:Int)<t.length:=yo;have e3:(y:Int)<t.length:=yo;have b8:=HQ.out.kept ST'.out.sp.fr yq;have cx:=b8.hd x H7;have cxy:=b8.el x y H7 H6;have e4:=qK HS.out H7 H6;have e2:=qK HS.out H6 H7;have d6:=Kh a4;clear b8 hy a4;go_wp2_with fail;refine(qEI w _ w1.heap.size w.heap.size (w.heap.size+1) t.length (entN t x y) mv' bs' made' e4 b5 ST'.out.sp).mono ?_;rintro e w4 ⟨rfl,bs4,mv4,h4,h2⟩
     have H2:∀z∈made,z∈made':=by
      obtain⟨r,hr⟩:=HR.out;intro z hz;rw[hr];exact List.mem_append_left _ hz
     have H0:=Kh (ST'.out.add (H2 x d7.out) (H2 y d6.out) h4 h2)
     have a7:Hid (∃r,pV made' (entN t x y)=made++r):=by
      obtain⟨r,hr⟩:=HR.out;obtain⟨r2,a8⟩:=mV made' (entN t x y);exact⟨r++r2,by rw[a8,hr,List.append_assoc]⟩
     have b0:Hid (Arr w4 kb 3 (nats (made.take (p+1)))):=by
      obtain⟨r,hr⟩:=a7.out;exact h2.pre ST'.out.sp h4 ⟨made.drop (p+1)++r,by rw[hr,<-List.append_assoc,List.take_append_drop]⟩ h9.out
     have b7:=HQ.out.kept h4.fr yq;have cy:=b7.hd y H6;have cyx:=b7.el y x H6 H7;clear b7 h4 h2 cx cxy cj H2;go_wp2_with fail;refine(qEI w _ w1.heap.size w.heap.size (w.heap.size+1) t.length (entN t y x) mv4 bs4 _ e2 b5 H0.out.sp).mono ?_;rintro e w5 ⟨rfl,bs5,mv5,H1,h1⟩
     have H2:∀z∈made,z∈pV made' (entN t x y):=by
      obtain⟨r,hr⟩:=a7.out;intro z hz;rw[hr];exact List.mem_append_left _ hz
     have a6:=Kh (H0.out.add (H2 y d6.out) (H2 x d7.out) H1 h1)
     have c4:Hid (∃r,pV (pV made' (entN t x y)) (entN t y x)=made++r):=by
      obtain⟨r,hr⟩:=a7.out;obtain⟨r2,a8⟩:=mV (pV made' (entN t x y)) (entN t y x);exact⟨r++r2,by rw[a8,hr,List.append_assoc]⟩
     have a9:Hid (Arr w5 kb 3 (nats (made.take (p+1)))):=by
      obtain⟨r,hr⟩:=c4.out;exact h1.pre H0.out.sp H1 ⟨made.drop (p+1)++r,by rw[hr,<-List.append_assoc,List.take_append_drop]⟩ b0.out
     clear H1 h1 cy cyx H2;go_wp2;go_roundg (p+1-(j+1))
     case measure=>have:=f7.out;omega
     exact⟨j+1,_,_,_,yo,by go_num,c4.out,a9.out,a6.out⟩
    have b4:p+1<=made'.length:=by
     obtain⟨r,hr⟩:=HR.out;rw[hr,List.length_append];omega
    have f9:=ST'.out.sp.made_le;go_wp2;go_roundg (t.length-(p+1))
    case measure=>have:=f6.out;omega
    exact⟨p+1,made',mv',bs',yo,by go_num,b4,ST'.out⟩
   go_wp2;go_roundg (t.length-(k+1))
   case measure=>have:=HG.out;omega
   exact⟨k+1,p,sa1,sc1,gs++[k],made,mv,bs,yo,by rw[e1.out],rfl,by go_num,hp,by have:=ST.out;rw[<-e1.out]at this;exact this⟩
  rw[hbk]at ck;have c7:k∈made:=(ST.out.sp.mem k hk).1 hbk;have f5:=Kh c7;clear hbk c7;go_wp2;go_roundg (t.length-(k+1))
  case measure=>have:=HG.out;omega
  exact⟨k+1,p,sa,sc,gs,made,mv,bs,yo,rfl,rfl,by go_num,hp,ST.out.sp,ST.out.own,ST.out.ap,ST.out.inv.next f5.out⟩
 go_wp2;go_ret;have g0:k=t.length:=by have:=HG.out;omega
 exact⟨sa,sc,gs,rfl,Row.of_owns ST.out.own,ST.out.inv.lt,fun x hx=>ST.out.inv.gen x (ST.out.inv.all x yo),ST.out.sp.fr⟩
theorem qAN (B:Nat)(w:World)(v:Value)(t:List (List Int))(h:Mat B w v t):Calls Tryz.prog 86 #[v] w fun e w'=>e=.returned (.int .i64 (tJ t))/\w=w':=by
 by_cases h0:0<t.length
 ·obtain⟨b,off,cap,A,C,rfl,H6,H2,hm⟩:=h.some_ h0
  have H5:cap<=9223372036854775807:=jl H2
  have HM:=Kh hm;clear hm;by_cases h4:400<t.length
  ·go_enter Tryz.func86,Tryz.ntmps86
   go_wp2;go_ret;exact⟨yX (dN h4).symm,rfl⟩
  have H4:((t.length:Int) == 0)=false:=by rw[beq_eq_false_iff_ne];omega
  go_enter Tryz.func86,Tryz.ntmps86;go_wp2
  go_loopg [15] t.length (fun g i wr=>∃k:Nat,g+k=t.length/\i=.int .i64 k/\qQC t k/\w=wr)
  case atStart=>exact⟨0,rfl,rfl,fun x hx=>absurd hx yo,rfl⟩
  obtain⟨k,hg,rfl,h6,rfl⟩:=hrel;have OK:=Kh h6;clear h6;by_cases hk:k<t.length
  ·have h8:=HM.out.hd k hk
   have h3:=HM.out.row k hk;have h7:=h3.len_le;rw[zL]at h7;unfold maxLen at h7;obtain⟨r,hr⟩:=Nm (t.getD k []);rw[<-hr]at h8 h3 h7;have HG:=Kh hg;have HR:=Kh hr;clear hg hr;by_cases hl:r.length=t.length
   ·have h5:=Kh hl
    have H0:((r.length:Int) != t.length)=false:=by rw[hl];simp
    obtain⟨rb,ro,rc,e,hb,h1,h2,h9⟩:=h3.some_ (by rw[zL];omega);simp only[Value.slice.injEq]at e;obtain⟨eA,-,rfl⟩:=e;rw[eA]at h8;have HA:=Kh eA;have RA:=Kh h9;rw[hl]at h8;rw[zL,hl]at h1;clear eA h9 hl;go_wp2
    go_loopg [26] t.length (fun g j wr'=>∃y:Nat,g+y=t.length/\j=.int .i64 y/\qCK t.length r y/\w=wr')
    case atStart=>exact⟨0,rfl,rfl,fun x hx=>absurd hx yo,rfl⟩
    obtain⟨y,hg,rfl,h6,rfl⟩:=hrel;have OKY:=Kh h6;clear h6;by_cases hy:y<t.length
    ·have H1:=RA.out.int y (by rw[h5.out];exact hy)
     obtain⟨z,hz⟩:=Nm (r.getD y 0);rw[<-hz]at H1;have HZ:=Kh hz;have H3:=Kh hg;clear hz hg;by_cases hb1:z<0
     ·go_wp2
      go_ret;exact⟨yX (qS h4 hk (jE (y:=y) (by rw[<-HR.out,h5.out];exact hy) (by rw[<-HR.out,<-HZ.out];exact .inl hb1))).symm,rfl⟩
     by_cases hb2:(t.length:Int)<=z
     ·go_wp2
      go_ret;exact⟨yX (qS h4 hk (jE (y:=y) (by rw[<-HR.out,h5.out];exact hy) (by rw[<-HR.out,<-HZ.out];exact .inr hb2))).symm,rfl⟩
     go_wp2;go_roundg (t.length-(y+1))
     case measure=>have:=H3.out;omega
     refine⟨y+1,yo,by go_num,fun x hx=>?_,rfl⟩;rcases Nat.lt_succ_iff_lt_or_eq.1 hx with hx|rfl
     ·exact OKY.out x hx
     rw[<-HZ.out];omega
    go_wp2;go_roundg (t.length-(k+1))
    case measure=>have:=HG.out;omega
    refine⟨k+1,yo,by go_num,fun x hx=>?_,rfl⟩;rcases Nat.lt_succ_iff_lt_or_eq.1 hx with hx|rfl
    ·exact OK.out x hx
    rw[<-HR.out,pB];exact⟨h5.out,fun z hz=>OKY.out z (by rw[h5.out]at hz;omega)⟩
   have H0:((r.length:Int) != t.length)=true:=by rw[bne_iff_ne];omega
   have h5:=Kh hl;clear hl;go_wp2;go_ret;exact⟨yX (qS h4 hk (by rw[<-HR.out];exact qAQ h5.out)).symm,rfl⟩
  go_wp2;go_ret;exact⟨yX (fQ h4 h0 (fun x hx=>OK.out x yo)).symm,rfl⟩
 obtain⟨a,c,e⟩:=h.shape;have ht:t=[]:=List.eq_nil_of_length_eq_zero yo;subst ht;subst e;clear h0;go_enter Tryz.func86,Tryz.ntmps86;go_wp2;go_ret;exact⟨rfl,rfl⟩
theorem qAB (B:Nat)(w:World)(v:Value)(t:List (List Int))(hB:B<=w.heap.size)(h:Mat B w v t):Calls Tryz.prog 72 #[v] w fun e w'=>e=.returned (.int .i64 (qD t))/\w.grownBy w' none:=by
 by_cases hE:tJ t=0
 ·have hs:=qEU hE
  obtain⟨HS,HE,H⟩:=Kc hs hE h;clear hs hE h;go_enter Tryz.func72,Tryz.ntmps72;go_wp2_with fail;refine(qAN B w v t H.out).mono ?_;rintro e w' ⟨rfl,rfl⟩;rw[HE.out];go_wp2_with fail;refine(qAK B w v t hB H.out HS.out).mono ?_;rintro e w1 ⟨sa,sc,gs,rfl,h0,h5,h1,h2⟩;obtain⟨HR,h3,h4⟩:=Kc h0 h5 h1;have HM:=Kh ((H.out.kept h2 yq).mono (show B<=w1.heap.size by have:=h2.size;omega));clear h0 h5 h1;go_wp2_with fail;refine(dB w1.heap.size w1 v _ t gs (Nat.le_refl _) HM.out HS.out HR.out h3.out).mono ?_;rintro e w2 ⟨rfl,h6⟩;have hg:=zI h2 h6;cases hb:eG t gs
  ·have hv:qD t=5:=qFY HE.out (fun ha=>by
    rw[eE (fun g hg=>ha g (h3.out g hg))]at hb;cases hb)
   have HV:=Kh hv;clear hb hv;go_wp2;go_ret;exact⟨yX HV.out.symm,hg⟩
  have hv:qD t=0:=iX HE.out (dC HS.out h4.out (fun g hg=>⟨h3.out g hg,by
   have:fI t gs:=by simpa [eG] using hb
   exact this g hg⟩))
  have HV:=Kh hv;clear hb hv;go_wp2;go_ret;exact⟨yX HV.out.symm,hg⟩
 have hb:(tJ t != 0)=true:=by rw[bne_iff_ne];exact hE
 have HE:=Kh hE;clear hE;go_enter Tryz.func72,Tryz.ntmps72;go_wp2_with fail;refine(qAN B w v t h).mono ?_;rintro e w' ⟨rfl,rfl⟩;go_wp2;go_ret;exact⟨yX (qAD HE.out).symm,zX _ _⟩
theorem qAC (B:Nat)(w:World)(v:Value)(t:List (List Int))(hB:B<=w.heap.size)(h:Mat B w v t):Calls Tryz.prog 50 #[v] w fun e w'=>e=.returned (.bool (qD t == 0))/\w.grownBy w' none:=by
 go_enter Tryz.func50,Tryz.ntmps50;go_wp2_with fail;refine(qAB B w v t hB h).mono ?_;rintro e w1 ⟨rfl,hg⟩;go_wp2;go_ret;exact⟨rfl,hg⟩
theorem qGK (n k:Nat)(hk:k<n):(List.range k++List.replicate (n-k) 0).set k k=List.range (k+1)++List.replicate (n-(k+1)) 0:=by
 rw[List.set_append_right _ _ yq,List.length_range,Nat.sub_self,List.range_succ,List.append_assoc];congr 1;rw[show n-k=n-(k+1)+1 by omega,List.replicate_succ,List.set_cons_zero];rfl
theorem qBU (w:World)(a:Option Addr)(n cap:Nat)(hn:n<=400):Calls Tryz.prog 90 #[.slice a n cap] w fun e w'=>e=.returned (.slice (some ⟨w.heap.size,0,none⟩) n n)/\Arr w' w.heap.size 3 (nats (List.range n))/\w.grownBy w' none:=by
 go_enter Tryz.func90,Tryz.ntmps90;go_wp2_with (at_make;refine pL rfl _ _ _ rfl yJ rfl _ _ _ _ n rfl rfl rfl rfl ?b1 ?b2 ?_;(case b1=>omega);(case b2=>(unfold maxLen;omega));intro w1 h3 h7 h8);rw[<-yW]at h3;have HA:=Kh h3;clear h3
 go_loopg [10] n (fun g i wr=>∃k:Nat,g+k=n/\i=.int .i64 k/\Arr wr w.heap.size 3 (nats (List.range k++List.replicate (n-k) 0))/\w.grownBy wr none)
 case atStart=>exact⟨0,rfl,rfl,by simpa using HA.out,h7⟩
 clear HA h7 h8;obtain⟨k,hg,rfl,h0,h6⟩:=hrel;have HG:=Kh hg;clear hg;by_cases hk:k<n
 ·have H1:(k:Int)<n:=yo
  have h1:(List.range k++List.replicate (n-k) 0).length=n:=by simp;omega
  have ck:=h0.nat k (by rw[h1];exact hk);have fk:=h0.frozen k;have h2:=h0.nat_set k (by rw[h1];exact hk) k;rw[qGK n k hk]at h2;have h9:=Kh h2;clear h2 h1 h0;go_wp2;go_roundg (n-(k+1))
  case measure=>have:=HG.out;omega
  exact⟨k+1,yo,by go_num,h9.out,zE h6 (zH _ _ _)⟩
 have h5:k=n:=by have:=HG.out;omega
 have H0:=Kh h5;have h4:=Kh h0;clear h0 h5;go_wp2;go_ret;refine⟨rfl,?_,h6⟩;have:=h4.out;rw[H0.out,Nat.sub_self,List.replicate_zero,List.append_nil]at this;exact this
end Go.Proofs.YtiknckajkdlppaaGreat
