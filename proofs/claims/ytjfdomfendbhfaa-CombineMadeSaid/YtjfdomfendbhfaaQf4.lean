/- Part 4 of the proof. -/
import Derived.Test.YtjfdomfendbhfaaQf3
import Derived.Maps.OwnSet
import Derived.Maps.OwnOps
import Derived.Deep.DeepCutAuto
import Derived.Deep.CutBlock
import Derived.StringKeys
import Derived.OrdersHeld
import Derived.Deep.RegionHeld3
set_option linter.unusedVariables false
set_option linter.unusedSimpArgs false
set_option maxRecDepth 100000
set_option maxHeartbeats 16000000
namespace Go.Proofs.Ytjfdomfendbhfaa
open Go.RowKit
def uT (B:Nat)(w:World)(v:Value)(d:DfaV):Prop:=∃ fv nv,v=.agg #[.int .i64 d.letters,.int .i64 d.start,fv,nv]/\Row B w fv (bls d.final)/\Mat B w nv d.next
theorem uT.kept {B:Nat}{w w':World}{v:Value}{d:DfaV}{row:Option Nat}(h:uT B w v d)(hg:w.grownBy w' row)(hr:∀ k,row=some k->B<=k):uT B w' v d:=by
 obtain⟨fv,nv,h1,h2,h3⟩:=h;exact⟨fv,nv,h1,h2.kept hg hr,h3.kept hg hr⟩
theorem uT.mono {B B':Nat}{w:World}{v:Value}{d:DfaV}(h:uT B w v d)(hB:B<=B'):uT B' w v d:=by
 obtain⟨fv,nv,h1,h2,h3⟩:=h;exact⟨fv,nv,h1,h2.mono hB,h3.mono hB⟩
theorem validD_letters {d:DfaV}(h:d.letters<1\/6<d.letters):vS d=1:=by rw[vS,if_pos h]
theorem validD_big {d:DfaV}(h:¬ (d.letters<1\/6<d.letters))(h2:512<d.final.length):vS d=3:=by rw[vS,if_neg h,if_pos h2]
theorem validD_shape {d:DfaV}(h:¬ (d.letters<1\/6<d.letters))(h2:¬ 512<d.final.length)(h3:d.final.length=0\/d.next.length≠d.final.length\/d.start<0\/d.final.length<=d.start):vS d=4:=by rw[vS,if_neg h,if_neg h2,if_pos h3]
theorem jU {d:DfaV}(h:¬ (d.letters<1\/6<d.letters))(h2:¬ 512<d.final.length)(h3:¬ (d.final.length=0\/d.next.length≠d.final.length\/d.start<0\/d.final.length<=d.start)){q:Nat}(hq:q<d.next.length)(hb:rowD d.letters d.final.length (d.next.getD q [])=false):vS d=4:=by
 rw[vS,if_neg h,if_neg h2,if_neg h3,if_neg];intro ha;have:=List.all_eq_true.1 ha d.next[q] (List.getElem_mem hq);rw[zG hq,this]at hb;cases hb
theorem validD_ok {d:DfaV}(h:¬ (d.letters<1\/6<d.letters))(h2:¬ 512<d.final.length)(h3:¬ (d.final.length=0\/d.next.length≠d.final.length\/d.start<0\/d.final.length<=d.start))(ha:∀ q,q<d.next.length->rowD d.letters d.final.length (d.next.getD q [])=true):vS d=0:=by
 rw[vS,if_neg h,if_neg h2,if_neg h3,if_pos];rw[List.all_eq_true];intro r hr;obtain⟨q,hq,rfl⟩:=List.getElem_of_mem hr;have:=ha q hq
 rwa [zG hq]at this
theorem rowD_len {k:Int}{n:Nat}{r:List Int}(h:(r.length:Int)≠k):rowD k n r=false:=by simp[rowD,h]
theorem qEM {k:Int}{n:Nat}{r:List Int}{y:Nat}(hy:y<r.length)(h:r.getD y 0<0\/n<=r.getD y 0):rowD k n r=false:=by
 rw[<- Bool.not_eq_true];intro hr;have:=(mJ.1 hr).2 y hy;omega
def DRows (d:DfaV)(k:Nat):Prop:=∀ x,x<k->rowD d.letters d.final.length (d.next.getD x [])=true
end Go.Proofs.Ytjfdomfendbhfaa
namespace Go.Proofs.Ytjfdomfendbhfaa
open Go.RowKit Go.Maps
theorem sM:Try.prog.underlying 171=some (.map 3 3):=by kernel_rfl
theorem tX:Try.prog.underlying 3=some (.int .i64):=by kernel_rfl
theorem gM (w:World):(zeroValue 3).run Try.prog w=.ok (.int .i64 0) w:=by kernel_rfl
def Mid (x:Int):Prop:=-4611686018427387904<x/\x<4611686018427387904
theorem qCD {x:Int}(hx:Mid x):(Lit.int .i64 x).wf=true:=by
 have h1:IntKind.i64.min = -9223372036854775808:=rfl;have h2:IntKind.i64.max=9223372036854775807:=rfl;obtain⟨h3,h4⟩:=hx;simp[Lit.wf];omega
theorem qDP {x:Int}(hx:Mid x):keyOf Try.prog 3 (.int .i64 x)=some (.int .i64 x):=keyOf_int_mk (q:=.i64) (by kernel_rfl) (qCD hx)
def rT (w:World)(b n:Nat)(l:List Int):Prop :=
 ∃ D:DataW Unit,w.ownsMap Try.prog 3 (plainElem Try.prog 3) b n D/\size D=l.length /\
  ∀ x:Int,Mid x->has D (.int .i64 x)=decide (x∈l)/\D.atKey (.int .i64 x) (.lit (.int .i64 0))=.lit (.int .i64 (if x∈l then ((l.idxOf x:Nat):Int) else 0))
theorem rT.made (w:World):rT (w.alloc (.map #[] 0)) w.heap.size 0 []:=by
 refine⟨.map [],World.ownsMap_made _ _ _ _,rfl,fun x _=>⟨by simp[has_eq],?_⟩⟩;rw[WideAt.atKey_none _ (by simp)];simp
theorem rT.kept {w w':World}{b n:Nat}{l:List Int}{row:Option Nat}(h:rT w b n l)(hg:w.grownBy w' row)(hne:row≠some b):rT w' b n l:=by
 obtain⟨D,h1,h2,h3⟩:=h;exact⟨D,h1.kept hg (fun e=>hne e.symm),h2,h3⟩
theorem rT.mono {w:World}{b n n':Nat}{l:List Int}(h:rT w b n l)(hn:n<=n'):rT w b n' l:=by
 obtain⟨D,h1,h2,h3⟩:=h;exact⟨D,h1.mono hn,h2,h3⟩
theorem rT.lt {w:World}{b n:Nat}{l:List Int}(h:rT w b n l):b<w.heap.size:=by
 obtain⟨D,h1,_⟩:=h;exact h1.lt
theorem rT.lookup {w:World}{b n:Nat}{l:List Int}(h:rT w b n l){x:Int}(hx:Mid x):(Instr.lookup 171 (.map (some b)) (.int .i64 x) true).run Try.prog w=.ok (.tuple #[.int .i64 (if x∈l then ((l.idxOf x:Nat):Int) else 0),.bool (decide (x∈l))]) w:=by
 obtain⟨D,h1,h2,h3⟩:=h;obtain⟨v,ps,h0,hv⟩:=h1.look_ok qAG sM (gM w) (plainElem_int tX (by decide)) (qDP hx);obtain⟨c,rfl,hc,_⟩:=plainElem_int_inv tX hv;obtain⟨e1,e2⟩:=h3 x hx;have e3:=congrArg Prod.fst hc;simp only[e2]at e3;rw[h0,e1]
 have e4:(if x∈l then ((l.idxOf x:Nat):Int) else 0)=c:=by
  simp only[Lit.int.injEq,DataW.lit.injEq,true_and]at e3;exact e3
 rw[e4]
theorem rT.len {w:World}{b n:Nat}{l:List Int}(h:rT w b n l):(Builtin.len_ #[171] 3 #[.map (some b)]).run Try.prog w=.ok (.int .i64 (l.length:Nat)) w:=by
 obtain⟨D,h1,h2,h3⟩:=h;have h0:=h1.len sM 3;rw[h2]at h0;exact h0
theorem jX {w:World}{ops:Array Oper}{rest:List Oper}{o:Oper}{a:Act}{Q:Exit->Act->World->Prop}(hg:o.guard=none)(m x v:Operand)(hop:o.op=Op.mapUpdate 171 m x v)(b n:Nat)(l:List Int)(z:Int)(hm:a.eval m=.map (some b))(hx:a.eval x=.int .i64 z)(hv:a.eval v=.int .i64 (l.length:Nat))(h:rT w b n l)(hn:n<maxLen)(hz:Mid z)(hnew:z ∉ l)(hll:l.length<4611686018427387904)(hK:∀ w',rT w' b (n+1) (l++[z])->w.grownBy w' (some b)->wpList Try.prog ops Q rest (a.put o.dst undef) w'):
  wpList Try.prog ops Q (o::rest) a w:=by
 obtain⟨D,h1,h2,h3⟩:=h;obtain⟨w',h0,h4,h7⟩:=h1.update qAG sM hn (qDP hz) (plainElem_int tX (qCD (x:=((l.length:Nat):Int)) ⟨by omega,by omega⟩));have h6:WideAt.IsKeyLit (.int .i64 z):=by simp[WideAt.IsKeyLit]
 refine wpList_plain hg fun K' hK'=>?_;unfold Oper.wp;simp[execOp,hop,hm,hx,hv,h0,Result.andThen];refine hK' _ _ (hK w' ⟨_,h4,?_,fun y hy=>?_⟩ h7)
 ·rw[size_put (h1.tidy qAG),(h3 z hz).1,decide_eq_false hnew,h2];simp
 ·by_cases e:y=z
  ·subst e
   refine⟨by rw[has_put_same h1.isMap h6];simp,?_⟩;rw[atKey_put_same h1.isMap h6,if_pos (by simp),List.idxOf_append,if_neg hnew];simp
  ·have h5:(Lit.int .i64 y)≠Lit.int .i64 z:=by intro h;injection h with _ h;exact e h
   obtain⟨e1,e2⟩:=h3 y hy;refine⟨by rw[has_put_other h5,e1];simp[e],?_⟩;rw[atKey_put_other h5,e2];by_cases hyl:y∈l
   ·rw[if_pos hyl,if_pos (by simp[hyl]),List.idxOf_append,if_pos hyl]
   ·rw[if_neg hyl,if_neg (by simp[hyl,e])]
def uA (l:List Nat)(k:Nat):List Nat:=l.take k++List.replicate (l.length - k) 0
theorem oO (l:List Nat):uA l 0=List.replicate l.length 0:=by simp[uA]
theorem lA (l:List Nat):uA l l.length=l:=by simp[uA]
theorem xV {l:List Nat}{k:Nat}(h:k<=l.length):(uA l k).length=l.length:=by simp[uA];omega
theorem mZ {l:List Nat}{k:Nat}(h:k<l.length):(uA l k).set k (l.getD k 0)=uA l (k+1):=by
 have hl:(l.take k).length=k:=by simp;omega
 unfold uA;rw[List.set_append_right _ _ (by omega),hl,Nat.sub_self,zR (d:=0) h,show l.length - k=(l.length - (k+1))+1 by omega,List.replicate_succ,List.set_cons_zero,List.append_assoc];rfl
def qJA (w:World)(p:List Nat)(e:Ending)(w':World):Prop :=
 ∃ g,e=.returned (.slice (some ⟨g,0,none⟩) p.length p.length)/\w.heap.size<=g/\Arr w' g 3 (nats p)/\w.grownBy w' none
theorem numb_step {l:List Int}{k:Nat}(hk:k<l.length):(numb l).getD k 0=if l[k]∈yA (l.take k) then (yA (l.take k)).idxOf l[k] else (yA (l.take k)).length:=by
 rw[zG (by rw[yD];exact hk),qW hk,<- qBV hk,List.take_succ_eq_append_getElem hk,tE];by_cases h:l[k]∈yA (l.take k)
 ·rw[uE h,if_pos h]
 ·rw[wO h,if_neg h,List.idxOf_append,if_neg h];simp
theorem bQ (B:Nat)(w:World)(v:Value)(l:List Int)(hB:B<=w.heap.size)(h:Row B w v (ints l))(hmid:∀ x∈l,Mid x)(hle:l.length<=4194304):
  Calls Try.prog 102 #[v] w (qJA w (numb l)):=by
 have c2:=@run_makeMap Try.prog;obtain⟨va,vc,rfl⟩:=h.shape;rw[yE]at h ⊢;have H:=Kh h;have HM:=Kh hmid;clear h hmid;obtain⟨w1,h4⟩:∃ w1,w1=w.alloc (.map #[] 0):=⟨_,rfl⟩;have a4:w.grownBy w1 none:=by rw[h4];exact Ga w _ none
 have c1:w1.heap.size=w.heap.size+1:=by rw[h4,zO]
 have b5:Hid (rT w1 w.heap.size 0 []):=Kh (by rw[h4];exact rT.made w);have b6:=Kh a4;have b3:=Kh h4;clear a4 h4;go_enter Try.func102,Try.ntmps102;go_upto_region 2 with fail;rw[<- b3.out];go_wp2_with (first|(at_make;refine nD rfl _ _ _ rfl yP rfl .i64 .i64 _ _ l.length rfl rfl rfl rfl ?b1 ?b2 ?_)|fail)
 case b1=>omega
 case b2=>unfold maxLen;omega
 intro w2 h0 H6 H3;have a0:=Kh h0;have H9:=Kh H6;have c0:=H6.size;clear h0 H6;obtain⟨g,hg⟩:∃ g,g=w.heap.size+1:=⟨_,rfl⟩;rw[<- hg]at a0 ⊢;have c6:w.heap.size<g:=by omega
 have c5:g<w2.heap.size:=by omega
 clear hg H3;go_wp2
 go_loopg [5,6,7,8,15] l.length (fun gh a5 a6 a7 a8 i wr=>∃ k:Nat,gh+k=l.length/\i=.int .i64 k/\Arr wr g 3 (nats (uA (numb l) k))/\rT wr w.heap.size k (yA (l.take k))/\w.grownBy wr none)
 case atStart=>exact⟨0,rfl,rfl,by rw[oO,yD,yV];exact a0.out,by simpa [yA] using b5.out.kept H9.out (by simp),zD b6.out H9.out⟩
 case round =>
  clear a0 H9;obtain⟨k,hg,rfl,h0,h5,h9⟩:=hrel;have HG:=Kh hg;have HA:=Kh h0;have h8:=Kh h5;have H8:=Kh h9;have b8:=h9.size;have a2:(numb l).length=l.length:=yD l;clear hg h5;by_cases hk:k<l.length
  ·have c4:(k:Int)<l.length:=by omega
   obtain⟨ib,io,ic,e,_,_,_,a1⟩:=(H.out.kept h9 (by simp)).some_ (by rw[yE];omega);simp only[Value.slice.injEq]at e;obtain⟨rfl,-,-⟩:=e;have ck:=a1.int k hk;have H2:Mid (l.getD k 0):=(by rw[zG hk];exact HM.out _ (List.getElem_mem hk));have h2:=numb_step hk;rw[<- zG (d:=0) hk]at h2;have h7:yA (l.take (k+1))=xP (yA (l.take k)) (l.getD k 0):=by rw[List.take_succ_eq_append_getElem hk,tE,zG hk]
   obtain⟨x,hx⟩:∃ x,x=l.getD k 0:=⟨_,rfl⟩;rw[<- hx]at ck H2 h2 h7;have h6:=vZ (l.take k);rw[List.length_take]at h6;have H4:=h8.out.lookup H2;have h1:=mZ (l:=numb l) (k:=k) (by omega);have c7:=frozen_of_row wr g k;have cgk:=h0.nat k (by rw[xV (by omega)];omega);have c8:(nats (uA (numb l) k)).length=l.length:=by rw[zT,xV (by omega)];omega
   have fgk:=h0.frozen k;clear a1 hx h9 h0;by_cases hin:x∈yA (l.take k)
   ·rw[if_pos hin,decide_eq_true hin]at H4
    rw[if_pos hin]at h2;have H1:Hid (yA (l.take (k+1))=yA (l.take k)):=Kh (by rw[h7,uE hin]);obtain⟨c,hc⟩:∃ c,c=(yA (l.take k)).idxOf x:=⟨_,rfl⟩;rw[<- hc]at H4 h2;rw[h2]at h1;have HS:=Kh h1;clear h2 h1 hc h7 hin;go_wp2;go_roundg (l.length - (k+1))
    case measure=>have:=HG.out;omega
    case rel =>
     refine⟨k+1,by omega,by go_num,?_,?_,?_⟩
     ·rw[<- HS.out];exact HA.out.nat_set k (by rw[xV (by omega)];omega) c
     ·rw[H1.out]
      exact(h8.out.kept (zC wr ⟨g,k,none⟩ _) (by simp;omega)).mono (by omega)
     ·exact zB H8.out (zC wr ⟨g,k,none⟩ _) (fun q e=>by have:=Oj e;simp at this;omega)
   ·rw[if_neg hin,decide_eq_false hin]at H4
    rw[if_neg hin]at h2;have H1:Hid (yA (l.take (k+1))=yA (l.take k)++[x]):=Kh (by rw[h7,wO hin]);have a9:=Kh hin;have b4:=Kh H2;rw[h2]at h1;have HS:=Kh h1;clear h2 h1 h7 hin cgk fgk;obtain⟨L,hL⟩:∃ L,L=yA (l.take k):=⟨_,rfl⟩;rw[<- hL]at h8 H1 a9 HS h6;have c3:=h8.out.len;clear hL;go_wp2_with (first|(at_mapUpdate;refine jX rfl _ _ _ rfl w.heap.size k L x rfl rfl rfl h8.out (by unfold maxLen;omega) b4.out a9.out (by omega) ?_;intro w5 h3 H5;(have H0:=HA.out.kept H5 (by simp;omega));(have H7:=Kh h3);(have b0:=Kh H5);(have b7:=Kh H0);(have fg5:=H0.frozen k);(have cg5:=H0.nat k (by rw[xV (by omega)];omega));clear h3 H5 H0)|fail);go_roundg (l.length - (k+1))
    case measure=>have:=HG.out;omega
    case rel =>
     have b9:=b0.out.size;refine⟨k+1,by omega,by go_num,?_,?_,?_⟩
     ·rw[<- HS.out];exact b7.out.nat_set k (by rw[xV (by omega)];omega) _
     ·rw[H1.out]
      exact H7.out.kept (zC w5 ⟨g,k,none⟩ _) (by simp;omega)
     ·exact zB (zB H8.out b0.out (fun q e=>by have:=Oj e;omega)) (zC w5 ⟨g,k,none⟩ _) (fun q e=>by have:=Oj e;simp at this;omega)
  ·have a3:k=l.length:=by have:=HG.out;omega
   have HE:Hid (uA (numb l) k=numb l):=Kh (by rw[a3,<- a2];exact lA _);clear a3 h0;go_wp2;go_ret;refine⟨g,by rw[a2];rfl,by omega,?_,H8.out⟩;rw[<- HE.out];exact HA.out
end Go.Proofs.Ytjfdomfendbhfaa
namespace Go.Proofs.Ytjfdomfendbhfaa
open Go.RowKit Go.Maps
theorem nR:Try.prog.underlying 129=some (.map 9 3):=by kernel_rfl
theorem kT:Try.prog.underlying 9=some .string:=by kernel_rfl
theorem iC:Keyed Try.prog 9:=string_keyed kT
end Go.Proofs.Ytjfdomfendbhfaa
namespace Go.Proofs.Ytjfdomfendbhfaa
open Go.RowKit Go.Maps
structure KeyK {α:Type}(mt kt:TypeId)(V:α->Prop)(kv:α->Value):Prop where
 key:Keyed Try.prog kt
 und:Try.prog.underlying mt=some (.map kt 3)
 of:∀ a,V a->(keyOf Try.prog kt (kv a)).isSome=true
 inj:∀ a b,V a->V b->kv a=kv b->a=b
section
variable {α:Type} {mt kt:TypeId} {V:α->Prop} {kv:α->Value}
def MapK (kt:TypeId)(V:α->Prop)(kv:α->Value)(w:World)(b n c:Nat)(f:α->Option Nat):Prop :=
 ∃ D:DataW Unit,w.ownsMap Try.prog kt (plainElem Try.prog 3) b n D/\size D=c /\
  ∀ a l,V a->keyOf Try.prog kt (kv a)=some l->has D l=(f a).isSome/\D.atKey l (.lit (.int .i64 0))=.lit (.int .i64 (((f a).getD 0:Nat):Int))
theorem MapK.made (kt:TypeId)(V:α->Prop)(kv:α->Value)(w:World):MapK kt V kv (w.alloc (.map #[] 0)) w.heap.size 0 0 (fun _=>none):=by
 refine⟨.map [],World.ownsMap_made _ _ _ _,rfl,fun x _ _ _=>⟨by simp[has_eq],?_⟩⟩;rw[WideAt.atKey_none _ (by simp)];simp
variable {w w':World} {b n c:Nat} {f:α->Option Nat}
theorem MapK.kept {row:Option Nat}(h:MapK kt V kv w b n c f)(hg:w.grownBy w' row)(hne:row≠some b):MapK kt V kv w' b n c f:=by
 obtain⟨D,h1,h2,h3⟩:=h;exact⟨D,h1.kept hg (fun e=>hne e.symm),h2,h3⟩
theorem MapK.mono {n':Nat}(h:MapK kt V kv w b n c f)(hn:n<=n'):MapK kt V kv w b n' c f:=by
 obtain⟨D,h1,h2,h3⟩:=h;exact⟨D,h1.mono hn,h2,h3⟩
theorem MapK.lt (h:MapK kt V kv w b n c f):b<w.heap.size:=by
 obtain⟨D,h1,_⟩:=h;exact h1.lt
theorem MapK.obj (h:MapK kt V kv w b n c f):∃ es clock,w.heap[b]?=some (.map es clock):=by
 obtain⟨D,⟨es,clock,hb,_⟩,_⟩:=h;exact⟨es,clock,hb⟩
theorem MapK.lookup (h:MapK kt V kv w b n c f)(K:KeyK mt kt V kv){x:α}(hx:V x):(Instr.lookup mt (.map (some b)) (kv x) true).run Try.prog w=.ok (.tuple #[.int .i64 (((f x).getD 0:Nat):Int),.bool (f x).isSome]) w:=by
 obtain⟨D,h1,h2,h3⟩:=h;obtain⟨kl,h4⟩:=Option.isSome_iff_exists.1 (K.of x hx);obtain⟨v,ps,h0,hv⟩:=h1.look_ok K.key K.und (gM w) (plainElem_int tX (by decide)) h4;obtain⟨c,rfl,hc,_⟩:=plainElem_int_inv tX hv;obtain⟨e1,e2⟩:=h3 x kl hx h4;have e3:=congrArg Prod.fst hc;simp only[e2]at e3;rw[h0,e1]
 have e4:(((f x).getD 0:Nat):Int)=c:=by
  simp only[Lit.int.injEq,DataW.lit.injEq,true_and]at e3;exact e3
 rw[e4]
theorem MapK.look1 (h:MapK kt V kv w b n c f)(K:KeyK mt kt V kv){x:α}(hx:V x):(Instr.lookup mt (.map (some b)) (kv x) false).run Try.prog w=.ok (.int .i64 (((f x).getD 0:Nat):Int)) w:=by
 obtain⟨D,h1,h2,h3⟩:=h;obtain⟨kl,h5⟩:=Option.isSome_iff_exists.1 (K.of x hx);obtain⟨c,h0,h4,_⟩:=h1.lookup_int K.key K.und tX (gM w) h5;rw[h0];rw[(h3 x kl hx h5).2]at h4
 have e4:(((f x).getD 0:Nat):Int)=c:=by
  simp only[Lit.int.injEq,DataW.lit.injEq,true_and]at h4;exact h4
 rw[e4]
theorem MapK.len (h:MapK kt V kv w b n c f)(K:KeyK mt kt V kv):(Builtin.len_ #[mt] 3 #[.map (some b)]).run Try.prog w=.ok (.int .i64 (c:Nat)) w:=by
 obtain⟨D,h1,h2,h3⟩:=h;have h0:=h1.len K.und 3;rw[h2]at h0;exact h0
theorem nH [DecidableEq α]{ops:Array Oper}{rest:List Oper}{o:Oper}{a:Act}{Q:Exit->Act->World->Prop}(K:KeyK mt kt V kv)(hg:o.guard=none)(m x v:Operand)(hop:o.op=Op.mapUpdate mt m x v)(b n c:Nat)(f:α->Option Nat)(z:α)(y:Nat)(hm:a.eval m=.map (some b))(hx:a.eval x=kv z)(hv:a.eval v=.int .i64 (y:Int))(h:MapK kt V kv w b n c f)(hn:n<maxLen)(hz:V z)(hy:y<4611686018427387904)(hK:∀ w',MapK kt V kv w' b (n+1) (if (f z).isSome then c else c+1) (fun q=>if q=z then some y else f q)->w.grownBy w' (some b)->wpList Try.prog ops Q rest (a.put o.dst undef) w'):
  wpList Try.prog ops Q (o::rest) a w:=by
 obtain⟨D,h1,h2,h3⟩:=h;obtain⟨kl,h0⟩:=Option.isSome_iff_exists.1 (K.of z hz);obtain⟨w',h4,h5,h7⟩:=h1.update K.key K.und hn h0 (plainElem_int tX (qCD (x:=(y:Int)) ⟨by omega,by omega⟩));refine wpList_plain hg fun K' hK'=>?_;unfold Oper.wp;simp[execOp,hop,hm,hx,hv,h4,Result.andThen];refine hK' _ _ (hK w' ⟨_,h5,?_,fun q ql hq hql=>?_⟩ h7)
 ·rw[size_put (h1.tidy K.key),(h3 z kl hz h0).1,h2]
 ·by_cases e:q=z
  ·subst e
   rw[h0]at hql;cases hql;refine⟨by rw[has_put_same h1.isMap (K.key.key h0)];simp,?_⟩;simp only[if_pos];rw[atKey_put_same h1.isMap (K.key.key h0)];rfl
  ·have h6:ql≠kl:=fun h=>e (K.inj q z hq hz (K.key.inj (hql.trans (congrArg some h)) h0))
   obtain⟨e1,e2⟩:=h3 q ql hq hql;simp only[if_neg e];exact⟨by rw[has_put_other h6,e1],by rw[atKey_put_other h6,e2]⟩
end
end Go.Proofs.Ytjfdomfendbhfaa
namespace Go.Proofs.Ytjfdomfendbhfaa
open Go.RowKit
theorem qBH {P:Program}{W:World}{g:Nat}{c:Int}(src e:TypeId)(hs:P.underlying src=some (.slice e))(he:P.underlying e=some (.int .u8))(dst:TypeId)(hd:P.underlying dst=some .string)(h:W.cell? ⟨g,0,none⟩=some (.int .u8 c)):(convert src dst (.slice (some ⟨g,0,none⟩) 1 1)).run P W=.ok (.string (strOfNums [c])) W:=by
 refine run_convert_bytes_arg W src e hs he g 0 1 1 [c] rfl (fun i hi=>?_) dst hd;have:i=0:=by simp at hi;omega
 subst this;simpa using h
section
variable {P:Program} {md:Region.Mode} {ops:Array Oper} {Q:Exit->Act->World->Prop}
def uG (P:Program)(md:Region.Mode)(ops:Array Oper)(Q:Exit->Act->World->Prop)(G:Array Bool->World->Prop):Nat->Array Bool->Act->World->Prop
 | 0,listed,a,w=>Region.ready md ops listed=[]/\Q .normal a w
 | fuel+1,listed,a,w =>
  (Region.ready md ops listed=[]->Q .normal a w) /\
  ∀ i∈Region.ready md ops listed,wpOp P ops Q i (fun a' w'=>G (listed.setIfInBounds i true) w'/\uG P md ops Q G fuel (listed.setIfInBounds i true) a' w') a w
variable {G:Array Bool->World->Prop}
theorem cD:∀ (fuel:Nat) (listed:Array Bool) (a:Act) (w:World),uG P md ops Q G fuel listed a w->wpAny P md ops Q fuel listed a w
 | 0,_,_,_,h=>h
 | fuel+1,_,_,_,h=>⟨h.1,fun i hi=>wpOp_mono (fun a' w' h'=>cD fuel _ a' w' h'.2) (h.2 i hi)⟩
theorem iP {S:World->Prop}{U:Array Bool->Prop}{i:Nat}{oi:Oper}{v:Value}(hi:ops[i]?=some oi)(hsel:∀ (j:Nat) (o:Oper) cs b,ops[j]?=some o->o.op≠.select cs b)(hQ:∀ c a w,Q (.panic c) (a.put oi.dst v) w->Q (.panic c) a w)(hU:∀ listed j,U listed->i∈Region.ready md ops listed->j∈Region.ready md ops listed->j≠i->U (listed.setIfInBounds j true))(hG:∀ listed w,U listed->G listed w->S w)(hGi:∀ listed w,U listed->i∈Region.ready md ops listed->G listed w->G (listed.setIfInBounds i true) w)(hGj:∀ listed j w,U listed->i∈Region.ready md ops listed->j∈Region.ready md ops listed->j≠i->G ((listed.setIfInBounds i true).setIfInBounds j true) w->G (listed.setIfInBounds j true) w):
  ∀ (fuel:Nat) (listed:Array Bool) (a:Act) (w:World),
   (∀ j oj,ops[j]?=some oj->j≠i->listed.getD j true=false->(∀ e∈oj.after,Region.binds md e=true->e.on≠i)->oi.apart ops oj=true) ->
   i∈Region.ready md ops listed->U listed->YieldsIf P ops S oi v a->G listed w ->
   uG P md ops Q G fuel (listed.setIfInBounds i true) (a.put oi.dst v) w->uG P md ops Q G (fuel+1) listed a w:=by
 intro fuel
 induction fuel with
 | zero =>
  intro listed a w _ hr hu hy hS H;refine⟨fun h=>(by rw[h]at hr;cases hr),fun j hj=>?_⟩;by_cases hji:j=i
  ·subst hji;exact hy.wpOp hi (hG _ _ hu hS) ⟨hGi _ _ hu hr hS,H⟩
  ·have:=ready_mono hj hji
   rw[H.1]at this;cases this
 | succ fuel ih =>
  intro listed a w h4 hr hu hy hS H;refine⟨fun h=>(by rw[h]at hr;cases hr),fun j hj=>?_⟩;by_cases hji:j=i
  ·subst hji;exact hy.wpOp hi (hG _ _ hu hS) ⟨hGi _ _ hu hr hS,H⟩
  ·have h1:=H.2 j (ready_mono hj hji)
   obtain⟨h6,oj,h7,h9⟩:=mem_ready.1 hj
   have h8:∀ e∈oj.after,Region.binds md e=true->e.on≠i:=fun e he hb heq=>by
    have h1:=h9 e he hb;have h0:=(mem_ready.1 hr).1;rw[heq]at h1;rcases Nat.lt_or_ge i listed.size with h'|h'
    ·simp[h']at h0 h1;rw[h0]at h1;cases h1
    ·simp[Array.getElem?_eq_none h']at h1
   have h2:=wpOp_putIf h7 (h4 j oj h7 hji h6 h8) (fun cs b=>hsel i oi cs b hi) (fun cs b=>hsel j oj cs b h7) hQ hy h1
   have h5:∀ k ok,ops[k]?=some ok->k≠i->(listed.setIfInBounds j true).getD k true=false ->
     (∀ e∈ok.after,Region.binds md e=true->e.on≠i)->oi.apart ops ok=true:=fun k ok hk hki hun hno=>by
    refine h4 k ok hk hki ?_ hno;by_cases hjk:j=k
    ·subst hjk;exact h6
    ·rw[Go.getD_set_ne true hjk]at hun;exact hun
   have H1:=hU listed j hu hr hj hji;refine wpOp_mono (fun a' w' h3=>?_) h2;have H0:=hGj listed j w' hu hr hj hji h3.2.1;refine⟨H0,ih (listed.setIfInBounds j true) a' w' h5 (ready_mono hr (Ne.symm hji)) H1 h3.1 H0 ?_⟩;rw[Array.setIfInBounds_comm _ _ hji];exact h3.2.2
def tG (s:Nat)(A B:World->Prop)(listed:Array Bool)(w:World):Prop:=A w/\(listed.getD s true=false->B w)
theorem vV {l:Array Bool}{i:Nat}:(l.setIfInBounds i true).getD i true=true:=by
 rcases Nat.lt_or_ge i l.size with h|h
 ·simp[h]
 ·simp[h]
theorem qBA {s j:Nat}{A B:World->Prop}{listed:Array Bool}{w:World}(h:tG s A B listed w):tG s A B (listed.setIfInBounds j true) w:=by
 refine⟨h.1,fun hs=>h.2 ?_⟩;by_cases e:j=s
 ·subst e;rw[vV]at hs;cases hs
 ·rwa [Go.getD_set_ne true e]at hs
theorem fD {s i j:Nat}{A B:World->Prop}{listed:Array Bool}{w:World}(hne:i≠s)(h:tG s A B ((listed.setIfInBounds i true).setIfInBounds j true) w):tG s A B (listed.setIfInBounds j true) w:=by
 refine⟨h.1,fun hs=>h.2 ?_⟩;by_cases e:j=s
 ·subst e;rw[vV]at hs;cases hs
 ·rw[Go.getD_set_ne true e]at hs ⊢
  rwa [Go.getD_set_ne true hne]
variable {s:Nat} {A B:World->Prop}
theorem takeA {i:Nat}{oi:Oper}{v:Value}{fuel:Nat}{listed:Array Bool}{a:Act}{w:World}(hi:ops[i]?=some oi)(hne:(i == s)=false)(hs:Region.noSelect ops=true)(hf:Region.free md ops listed i=true)(hr:(Region.ready md ops listed).contains i=true)(hQ:∀ c a w,Q (.panic c) (a.put oi.dst v) w->Q (.panic c) a w)(hy:YieldsIf P ops A oi v a)(hG:tG s A B listed w)(h:uG P md ops Q (tG s A B) fuel (listed.setIfInBounds i true) (a.put oi.dst v) w):uG P md ops Q (tG s A B) (fuel+1) listed a w :=
 iP (S:=A) (U:=fun _=>True) hi (Region.noSelect_spec hs) hQ (fun _ _ _ _ _ _=>trivial) (fun _ _ _ h=>h.1) (fun _ _ _ _ h=>qBA h)
  (fun _ _ _ _ _ _ _ h=>fD (by simpa using hne) h) fuel listed a w (Region.free_spec hi hf) (by simpa using hr) trivial hy hG h
theorem qIA {i:Nat}{oi:Oper}{v:Value}{fuel:Nat}{listed:Array Bool}{a:Act}{w:World}(hi:ops[i]?=some oi)(hne:(i == s)=false)(hw:(match ops[s]? with|some os=>os.after.any fun e=>Region.binds md e && (e.on == i)|none=>false)=true)(hun:listed.getD s true=false)(hs:Region.noSelect ops=true)(hf:Region.free md ops listed i=true)(hr:(Region.ready md ops listed).contains i=true)(hQ:∀ c a w,Q (.panic c) (a.put oi.dst v) w->Q (.panic c) a w)(hy:YieldsIf P ops (fun w=>A w/\B w) oi v a)(hG:tG s A B listed w)(h:uG P md ops Q (tG s A B) fuel (listed.setIfInBounds i true) (a.put oi.dst v) w):uG P md ops Q (tG s A B) (fuel+1) listed a w:=by
 refine iP (S:=fun w=>A w/\B w) (U:=fun l=>l.getD s true=false) hi (Region.noSelect_spec hs) hQ (fun l j hu hir hj hji=>?_) (fun l w hu h=>⟨h.1,h.2 hu⟩) (fun _ _ _ _ h=>qBA h)
  (fun _ _ _ _ _ _ _ h=>fD (by simpa using hne) h) fuel listed a w (Region.free_spec hi hf) (by simpa using hr) hun hy hG h
 by_cases e:j=s
 ·subst e
  exfalso;obtain⟨h4,oj,h3,h2⟩:=mem_ready.1 hj;rw[h3]at hw;simp only[Array.any_eq_true,Bool.and_eq_true,beq_iff_eq]at hw;obtain⟨k,hk,hb,he⟩:=hw;have h1:=h2 _ (Array.getElem_mem hk) hb;have h0:=(mem_ready.1 hir).1;rw[he]at h1;rcases Nat.lt_or_ge i l.size with h'|h'
  ·simp[h']at h0 h1;rw[h0]at h1;cases h1
  ·simp[Array.getElem?_eq_none h']at h1
 ·rw[Go.getD_set_ne true e];exact hu
theorem yK (i:Nat){oi:Oper}{v:Value}{fuel:Nat}{listed:Array Bool}{a a':Act}{w:World}(hG:tG s A B listed w)(h:uG P md ops Q (tG s A B) fuel (listed.setIfInBounds i true) a' w)(hi:ops[i]?=some oi:=by rfl)(hne:(i == s)=false:=by rfl)(hs:Region.noSelect ops=true:=by kernel_rfl)(hf:Region.free md ops listed i=true:=by kernel_rfl)(hr:(Region.ready md ops listed).contains i=true:=by kernel_rfl)(hw:Region.wanted oi (yielded ops a.tmps)=true:=by rfl)(hv:∀ w,A w->(execOp a.eval oi).run P w=.ok (.value v) w:=by(intro wz hz;(try dsimp only at hz);(repeat obtain⟨_,hz⟩:=hz);go_simp;(try with_reducible rfl)))(hQ:∀ c a w,Q (.panic c) (a.put oi.dst v) w->Q (.panic c) a w:=by exact fun _ _ _ h=>h)(ha:a.put oi.dst v=a':=by((try simp only[Act.put,sPd,sPe,sPf,sPa,sPb,sPc]);with_reducible rfl)):
  uG P md ops Q (tG s A B) (fuel+1) listed a w:=takeA hi hne hs hf hr hQ (Or.inl ⟨hw,hv⟩) hG (by rw[ha];exact h)
theorem vX (i:Nat){oi:Oper}{v:Value}{fuel:Nat}{listed:Array Bool}{a a':Act}{w:World}(hG:tG s A B listed w)(h:uG P md ops Q (tG s A B) fuel (listed.setIfInBounds i true) a' w)(hi:ops[i]?=some oi:=by rfl)(hne:(i == s)=false:=by rfl)(hwt:(match ops[s]? with|some os=>os.after.any fun e=>Region.binds md e && (e.on == i)|none=>false)=true:=by kernel_rfl)(hun:listed.getD s true=false:=by rfl)(hs:Region.noSelect ops=true:=by kernel_rfl)(hf:Region.free md ops listed i=true:=by kernel_rfl)(hr:(Region.ready md ops listed).contains i=true:=by kernel_rfl)(hw:Region.wanted oi (yielded ops a.tmps)=true:=by rfl)(hv:∀ w,A w/\B w->(execOp a.eval oi).run P w=.ok (.value v) w:=by(rintro wz ⟨hy,hz⟩;(try dsimp only at hz);(try dsimp only at hy);(repeat obtain⟨_,hz⟩:=hz);(repeat obtain⟨_,hy⟩:=hy);go_simp;(try with_reducible rfl)))(hQ:∀ c a w,Q (.panic c) (a.put oi.dst v) w->Q (.panic c) a w:=by exact fun _ _ _ h=>h)(ha:a.put oi.dst v=a':=by((try simp only[Act.put,sPd,sPe,sPf,sPa,sPb,sPc]);with_reducible rfl)):
  uG P md ops Q (tG s A B) (fuel+1) listed a w:=qIA hi hne hwt hun hs hf hr hQ (Or.inl ⟨hw,hv⟩) hG (by rw[ha];exact h)
theorem nE {listed:Array Bool}{a:Act}{w:World}(hr:Region.ready md ops listed=[])(h:Q .normal a w):∀ fuel,uG P md ops Q G fuel listed a w
 | 0=>⟨hr,h⟩
 | _+1=>⟨fun _=>h,by rw[hr];simp⟩
theorem oneG {i:Nat}{o:Oper}{fuel:Nat}{listed:Array Bool}{a:Act}{w:World}(hr:Region.ready md ops listed=[i])(ho:ops[i]?=some o)(h:∀ K':Act->World->Prop,Shut (∀ a w,G (listed.setIfInBounds i true) w->uG P md ops Q G fuel (listed.setIfInBounds i true) a w->K' a w)->if Region.wanted o (yielded ops a.tmps)=true then Oper.wp P o a w K' Q else K' (a.put o.dst undef) w):
  uG P md ops Q G (fuel+1) listed a w:=by
 refine⟨fun h0=>(by rw[hr]at h0;cases h0),fun j hj=>?_⟩;rw[hr]at hj;have:j=i:=by simpa using hj
 subst this;exact wpOp_step ho (fun K' hK=>h K' (fun a w hG hW=>hK a w ⟨hG,hW⟩))
theorem twoG {i j:Nat}{o o':Oper}{fuel:Nat}{listed:Array Bool}{a:Act}{w:World}(hr:Region.ready md ops listed=[i,j])(ho:ops[i]?=some o)(ho':ops[j]?=some o')(h:∀ K':Act->World->Prop,Shut (∀ a w,G (listed.setIfInBounds i true) w->uG P md ops Q G fuel (listed.setIfInBounds i true) a w->K' a w)->if Region.wanted o (yielded ops a.tmps)=true then Oper.wp P o a w K' Q else K' (a.put o.dst undef) w)(h':∀ K':Act->World->Prop,Shut (∀ a w,G (listed.setIfInBounds j true) w->uG P md ops Q G fuel (listed.setIfInBounds j true) a w->K' a w)->if Region.wanted o' (yielded ops a.tmps)=true then Oper.wp P o' a w K' Q else K' (a.put o'.dst undef) w):
  uG P md ops Q G (fuel+1) listed a w:=by
 refine⟨fun h0=>(by rw[hr]at h0;cases h0),fun k hk=>?_⟩;rw[hr]at hk;rcases (by simpa using hk:k=i\/k=j) with rfl|rfl
 ·exact wpOp_step ho (fun K' hK=>h K' (fun a w hG hW=>hK a w ⟨hG,hW⟩))
 ·exact wpOp_step ho' (fun K' hK=>h' K' (fun a w hG hW=>hK a w ⟨hG,hW⟩))
theorem xZ {id:Nat}{a:Act}{w:World}(hm:P.follows .mixedOrders=true)(h:uG P .any ops Q G ops.size (Array.replicate ops.size false) a w.drew):(Code.region id ops true).wp P Q a w :=
 wp_region_any hm (cD _ _ _ _ h)
end
theorem jK (p q:Nat->Bool)(hle:∀ j,q j=true->p j=true):∀ l:List Nat,(l.filter q).length<=(l.filter p).length
 | []=>Nat.le_refl _
 | x::l=>by
  have ih:=jK p q hle l
  by_cases hq:q x=true
  ·rw[List.filter_cons_of_pos hq,List.filter_cons_of_pos (hle x hq)]
   simp only[List.length_cons];omega
  ·rw[List.filter_cons_of_neg hq]
   by_cases hp:p x=true
   ·rw[List.filter_cons_of_pos hp];simp only[List.length_cons];omega
   ·rw[List.filter_cons_of_neg hp];exact ih
theorem jJ (p q:Nat->Bool)(hle:∀ j,q j=true->p j=true){i:Nat}(hp:p i=true)(hq:q i=false):∀ l:List Nat,i∈l->(l.filter q).length<(l.filter p).length
 | [],h=>by cases h
 | x::l,h=>by
  rcases List.mem_cons.1 h with rfl|h'
  ·have:=jK p q hle l
   rw[List.filter_cons_of_pos hp,List.filter_cons_of_neg (by rw[hq];simp)]
   simp only[List.length_cons];omega
  ·have ih:=jJ p q hle hp hq l h'
   by_cases hqx:q x=true
   ·rw[List.filter_cons_of_pos hqx,List.filter_cons_of_pos (hle x hqx)]
    simp only[List.length_cons];omega
   ·rw[List.filter_cons_of_neg hqx]
    by_cases hpx:p x=true
    ·rw[List.filter_cons_of_pos hpx];simp only[List.length_cons];omega
    ·rw[List.filter_cons_of_neg hpx];exact ih
section
variable {P:Program} {md:Region.Mode} {ops:Array Oper} {Q:Exit->Act->World->Prop}
def qEA (ops:Array Oper)(listed:Array Bool):Nat:=((List.range ops.size).filter fun i=>!listed.getD i true).length
theorem cI {listed:Array Bool}{i:Nat}(hi:i∈Region.ready md ops listed):qEA ops (listed.setIfInBounds i true)<qEA ops listed:=by
 obtain⟨h0,o,ho,_⟩:=mem_ready.1 hi
 have h1:i<ops.size:=by
  rcases Nat.lt_or_ge i ops.size with h|h
  ·exact h
  ·rw[Array.getElem?_eq_none h]at ho;cases ho
 refine jJ _ _ (fun j hj=>?_) (i:=i) (by rw[h0];rfl) (by rw[vV];rfl) _ (List.mem_range.2 h1);by_cases e:i=j
 ·subst e;rw[vV]at hj;cases hj
 ·rwa [Go.getD_set_ne true e]at hj
end
structure ElemN (P:Program)(t e:TypeId)(sz:Nat)(z:Value)(bytes:Nat):Prop where
 ht:P.underlying t=some (.slice e)
 hi:(P.info? e).map (fun i=>(i.zero,i.size,i.bytes))=some (some z,sz,bytes)
 hz:z.cells.size=sz
 pos:0<sz
theorem ElemOk.toN {P:Program}{t e:TypeId}{z:Value}{bytes:Nat}(E:ElemOk P t e z bytes):ElemN P t e 1 z bytes:=⟨E.ht,E.hi,E.hz,by decide⟩
theorem oX {P:Program}{w:World}(base:Nat)(t ty:TypeId){e:TypeId}{z:Value}{bytes:Nat}(E:ElemOk P t e z bytes)(v:Value)(n:Nat)(xs:List Value)(hown:w.ownsRow base e 1 v n xs)(g c:Nat)(u:Value)(hu:w.cell? ⟨g,0,none⟩=some u)(h1:u.oneCell'=true)(h63:n+1<=maxLen)(hbytes:(n+1) * bytes<=140737488355328)(hbase:base<=w.heap.size):
  ∃ v' w',(Builtin.append_ #[t,t] ty #[v,.slice (some ⟨g,0,none⟩) 1 c]).run P w=.ok v' w'/\w'.ownsRow base e 1 v' (n+1) (xs++[u])/\w.grownBy w' v.ownBlock/\qP w w' v v':=by
 obtain⟨i,hi,hz,h5,H0⟩:=info_parts E.hi
 have h0:∀ j u',[u][j]?=some u'->w.cell? ((⟨g,0,none⟩:Addr).add j)=some u':=by
  intro j u' hj
  match j,hj with
  | 0,hj=>simp at hj;subst hj;simpa [Addr.add] using hu
 have h7:∀ u'∈[u],u'.oneCell'=true:=by intro u' hu;simp at hu;subst hu;exact h1
 obtain⟨v',w',hr,h2,h3,h4⟩:=run_append_own (P:=P) w base t ty e i z 1 bytes E.ht hi hz h5 H0 E.hz (by decide) v n xs hown ⟨g,0,none⟩ 1 c [u] rfl h0 h7 h63 hbytes hbase;refine⟨v',w',hr,h2,h3,?_⟩;have h9:n+1<=9223372036854775807:=by simp only[maxLen]at h63;omega
 rcases hown.2 with ⟨rfl,rfl⟩|⟨b,cap,cur,rfl,hb,hg,hnc,hcm,hcs,htake⟩
 ·have h6:=run_append_nil (P:=P) w t ty e i z E.ht hi hz ⟨g,0,none⟩ 1 c [u] (by simp[h5]) h0 (by omega) (by omega) (by rw[H0];simp at hbytes;omega)
  rw[h6]at hr;injection hr with e1 e2;subst e1;subst e2;refine .inr ⟨vI (Ga w _ none) rfl rfl rfl rfl,fun k hk=>?_⟩;have:w.heap.size=k:=by simpa [Value.ownBlock] using hk
  omega
 ·by_cases hroom:n+1<=cap
  ·obtain⟨w2,h6,_⟩:=run_append_fits (P:=P) w base t ty e i 1 E.ht hi h5 b n cap xs hown ⟨g,0,none⟩ 1 c [u] rfl h0 h7 hroom
   rw[h6]at hr;injection hr with e1 e2;subst e1;exact .inl rfl
  ·have h8:∀ j u,xs[j]?=some u->w.cell? ((⟨b,0,none⟩:Addr).add j)=some u:=hown.cells (g:=b) rfl
   have H1:xs.length=n * i.size:=by rw[h5];exact hown.1
   have h6:=run_append_grow (P:=P) w t ty e i z E.ht hi hz ⟨b,0,none⟩ n cap xs H1 h8 ⟨g,0,none⟩ 1 c [u] (by simp[h5]) h0 (by omega) (by omega) (growslice_fits (by omega) (by rw[H0];exact hbytes));rw[h6]at hr;injection hr with e1 e2;subst e1;subst e2;refine .inr ⟨vI (Ga w _ none) rfl rfl rfl rfl,fun k hk=>?_⟩;have:w.heap.size=k:=by simpa [Value.ownBlock] using hk
   omega
structure RowS where
 base:Nat
 e:TypeId
 v:Value
 n:Nat
 xs:List Value
 sz:Nat
structure GrownBut (w w':World)(F:Nat->Prop):Prop where
 os:w'.os=w.os
 tape:w'.tape=w.tape
 output:w'.output=w.output
 size:w.heap.size<=w'.heap.size
 block:∀ k,k<w.heap.size->¬ F k->w'.heap[k]?=w.heap[k]?
theorem GrownBut.refl (w:World)(F:Nat->Prop):GrownBut w w F:=⟨rfl,rfl,rfl,Nat.le_refl _,fun _ _ _=>rfl⟩
theorem GrownBut.step {w w' w'' : World}{F : Nat -> Prop}{row : Option Nat}(h : GrownBut w w' F)(hg : w'.grownBy w'' row)(hr : ∀ k, row = some k -> F k \/ w.heap.size <= k): GrownBut w w'' F :=
 ⟨hg.os.trans h.os, hg.tape.trans h.tape, hg.output.trans h.output, Nat.le_trans h.size hg.size, fun k hk hf => by
  refine(hg.block k (Nat.lt_of_lt_of_le hk h.size) fun e => ?_).trans (h.block k hk hf)
  rcases hr k e.symm with h | h
  ·exact hf h
  ·omega⟩
theorem GrownBut.grown {w0 w w' : World}{F : Nat -> Prop}{row : Option Nat}(h : GrownBut w w' F)(h0 : w0.grownBy w row)(hF : ∀ k, F k -> row = some k \/ w0.heap.size <= k): w0.grownBy w' row :=
 ⟨h.os.trans h0.os, h.tape.trans h0.tape, h.output.trans h0.output, Nat.le_trans h0.size h.size, fun k hk hne => by
  refine(h.block k (Nat.lt_of_lt_of_le hk h0.size) fun hf => ?_).trans (h0.block k hk hne)
  rcases hF k hf with e | e
  ·exact hne e.symm
  ·omega⟩
theorem GrownBut.cell {w w':World}{F:Nat->Prop}(h:GrownBut w w' F){p:Addr}{u:Value}(hc:w.cell? p=some u)(hf:¬ F p.block):w'.cell? p=some u :=
 (World.cell?_of_block (h.block p.block (World.block_lt_of_cell? w p hc) hf)).trans hc
theorem GrownBut.heap {w w':World}{F:Nat->Prop}(h:GrownBut w w' F){p:Nat}{o:Obj}(hc:w.heap[p]?=some o)(hf:¬ F p):w'.heap[p]?=some o :=
 (h.block p (zI hc) hf).trans hc
structure Many (w0:World)(F:Nat->Prop)(W:World)(rs:List RowS)(ls:List (Nat×Obj))(ps:List (Nat×TypeId×List Value)):Prop where
 own:∀ (j:Nat) (r:RowS),rs[j]?=some r->W.ownsRow r.base r.e r.sz r.v r.n r.xs
 mine:∀ (j:Nat) (r:RowS),rs[j]?=some r->∀ k,r.v.ownBlock=some k->F k\/w0.heap.size<=k
 apart:∀ (i j:Nat) (r s:RowS),i≠j->rs[i]?=some r->rs[j]?=some s->∀ k,r.v.ownBlock=some k->s.v.ownBlock≠some k
 lit:∀ p∈ls,W.heap[p.1]?=some p.2/\(∀ (j:Nat) (r:RowS),rs[j]?=some r->r.v.ownBlock≠some p.1)/\w0.heap.size<=p.1
 pre:∀ p∈ps,Arr W p.1 p.2.1 p.2.2/\∀ (j:Nat) (r:RowS),rs[j]?=some r->r.v.ownBlock=some p.1->p.2.2 <+: r.xs/\r.e=p.2.1/\r.sz=1
 but:GrownBut w0 W F
section
variable {w0 W:World} {F:Nat->Prop} {rs:List RowS} {ls:List (Nat×Obj)} {ps:List (Nat×TypeId×List Value)}
theorem qGQ {w:World}{base e n sz:Nat}{v:Value}{xs:List Value}(h:w.ownsRow base e sz v n xs){k:Nat}(hk:v.ownBlock=some k):k<w.heap.size:=(h.lt k hk).2
theorem zQ {w w':World}{base e sz:Nat}{v:Value}{n:Nat}{xs:List Value}(h:w.ownsRow base e sz v n xs)(hg:w.grownBy w' none):w'.ownsRow base e sz v n xs:=by
 refine h.kept hg ?_;rcases hv:v.ownBlock with _|k
 ·exact .inl rfl
 ·exact .inr (by simp)
theorem Many.grow {W':World}(h:Many w0 F W rs ls ps)(hg:W.grownBy W' none):Many w0 F W' rs ls ps where
 own:=fun j r hr=>zQ (h.own j r hr) hg
 mine:=h.mine
 apart:=h.apart
 lit:=fun p hp=>⟨zA (h.lit p hp).1 hg (by simp),(h.lit p hp).2⟩
 pre:=fun p hp=>⟨(h.pre p hp).1.kept hg (by simp),(h.pre p hp).2⟩
 but:=h.but.step hg (by simp)
theorem Many.drew (h:Many w0 F W rs ls ps):Many w0 F W.drew rs ls ps:=h.grow (zP W none)
theorem Many.alloc (h:Many w0 F W rs ls ps)(o:Obj):Many w0 F (W.alloc o) rs ((W.heap.size,o)::ls) ps where
 own:=fun j r hr=>(h.own j r hr).alloc o
 mine:=h.mine
 apart:=h.apart
 lit:=fun p hp=>by
  rcases List.mem_cons.1 hp with rfl|hp
  ·exact⟨heap_alloc_new W o,fun j r hr e=>(by have:=qGQ (h.own j r hr) e;simp only at this;omega),h.but.size⟩
  ·exact⟨zA (h.lit p hp).1 (Ga W o none) (by simp),(h.lit p hp).2⟩
 pre:=fun p hp=>⟨(h.pre p hp).1.kept (Ga W o none) (by simp),(h.pre p hp).2⟩
 but:=h.but.step (Ga W o none) (by simp)
theorem fT {α:Type}{l:List α}{j i:Nat}{x r:α}(h:(l.set j x)[i]?=some r):(i=j/\r=x/\j<l.length)\/(i≠j/\l[i]?=some r):=by
 by_cases e:i=j
 ·subst e
  left;rw[List.getElem?_set]at h;simp only[if_true]at h
  split at h
  ·exact⟨rfl,(Oj h).symm,by assumption⟩
  ·cases h
 ·exact .inr ⟨e,by rwa [List.getElem?_set_ne (Ne.symm e)]at h⟩
theorem Many.append {W':World}(h:Many w0 F W rs ls ps){j:Nat}{r:RowS}(hr:rs[j]?=some r){v':Value}{n':Nat}{us:List Value}(ho:W'.ownsRow r.base r.e r.sz v' n' (r.xs++us))(hg:W.grownBy W' r.v.ownBlock)(hm:qP W W' r.v v'):Many w0 F W' (rs.set j ⟨r.base,r.e,v',n',r.xs++us,r.sz⟩) ls ps where
 own:=fun i s hs=>by
  rcases fT hs with ⟨rfl,rfl,_⟩|⟨hne,hs⟩
  ·exact ho
  ·refine(h.own i s hs).kept hg ?_
   rcases hb:s.v.ownBlock with _|k
   ·exact .inl rfl
   ·exact .inr fun e=>h.apart i j s r hne hs hr k hb (by rw[<- e])
 mine:=fun i s hs k hk=>by
  rcases fT hs with ⟨rfl,rfl,_⟩|⟨hne,hs⟩
  ·rcases hm with hm|⟨_,hm⟩
   ·exact h.mine i r hr k (hm ▸ hk)
   ·have:=hm k hk
    have:=h.but.size
    exact .inr (by omega)
  ·exact h.mine i s hs k hk
 apart:=fun i i' s s' hne hs hs' k hk=>by
  rcases fT hs with ⟨rfl,rfl,_⟩|⟨h1,hs2⟩
  ·rcases fT hs' with ⟨rfl,_,_⟩|⟨h2,hs'⟩
   ·exact absurd rfl hne
   ·rcases hm with hm|⟨_,hm⟩
    ·exact h.apart i i' r s' hne hr hs' k (hm ▸ hk)
    ·intro e
     have h3:=hm k hk
     have h4:=qGQ (h.own i' s' hs') e
     omega
  ·rcases fT hs' with ⟨rfl,rfl,_⟩|⟨h2,hs'⟩
   ·rcases hm with hm|⟨_,hm⟩
    ·exact fun e=>h.apart i i' s r hne hs2 hr k hk (by rw[<- hm];exact e)
    ·intro e
     have h3:=hm k e
     have h4:=qGQ (h.own i s hs2) hk
     omega
   ·exact h.apart i i' s s' hne hs2 hs' k hk
 lit:=fun p hp=>by
  obtain⟨h1,h2,hlow⟩:=h.lit p hp
  refine⟨zA h1 hg (h2 j r hr),fun i s hs e=>?_,hlow⟩
  rcases fT hs with ⟨rfl,rfl,_⟩|⟨hne,hs⟩
  ·rcases hm with hm|⟨_,hm⟩
   ·exact h2 i r hr (hm ▸ e)
   ·have h3:=hm _ e
    have h4:=zI h1
    omega
  ·exact h2 i s hs e
 pre:=fun p hp=>by
  obtain⟨h1,h2⟩:=h.pre p hp
  have harr:Arr W' p.1 p.2.1 p.2.2:=by
   by_cases e:r.v.ownBlock=some p.1
   ·rcases hm with hm|⟨hm,_⟩
    ·obtain⟨h3,h4,h5⟩:=h2 j r hr e
     rw[h5]at ho;rcases ho.2 with ⟨hv,_⟩|⟨g,cap,cur,hv,_⟩
     ·rw[hv]at hm;rw[e]at hm;simp[Value.ownBlock]at hm
     ·subst hv
      have h0:g=p.1:=by rw[e]at hm;simpa [Value.ownBlock] using hm
      subst h0;have ha:=Arr.of_owns ho;rw[h4]at ha;obtain⟨q,hq⟩:=h3;rw[<- hq,List.append_assoc]at ha;exact ha.front
    ·exact h1.kept hm (by simp)
   ·exact h1.kept hg e
  refine⟨harr,fun i s hs e=>?_⟩;rcases fT hs with ⟨rfl,rfl,_⟩|⟨hne,hs⟩
  ·rcases hm with hm|⟨_,hm⟩
   ·obtain⟨h3,h4,h5⟩:=h2 i r hr (hm ▸ e)
    exact⟨h3.trans (List.prefix_append _ _),h4,h5⟩
   ·have h3:=hm _ e
    have h4:=h1.lt;omega
  ·exact h2 i s hs e
 but:=h.but.step hg (h.mine j r hr)
theorem Many.litcell (h:Many w0 F W rs ls ps){g e:Nat}{u:Value}{m:Nat×Nat}(hl:(g,Obj.cells #[u] e m)∈ls):W.cell? ⟨g,0,none⟩=some u:=by
 simpa using zJ (h.lit _ hl).1 0 (by simp)
theorem Many.precell (h:Many w0 F W rs ls ps){g e:Nat}{xs:List Value}(hp:(g,e,xs)∈ps)(i:Nat)(hi:i<xs.length):W.cell? ⟨g,i,none⟩=some xs[i]:=(h.pre _ hp).1.cell i hi
theorem vY {P : Program}{W : World}{ops : Array Oper}{o : Oper}{a : Act}{K : Act → World → Prop}{Q : Exit → Act → World → Prop}{R : Prop}(hgd : o.guard = none)(s x : Operand)(t : TypeId)(ho : o.op = .call { callee := .builtin .append, args := #[s, x], argTypes := #[t, t] }){e : TypeId}{z : Value}{bytes : Nat}(E : ElemOk P t e z bytes)(j : Nat)(g c : Nat)(hx : a.eval x = .slice (some ⟨g, 0, none⟩) 1 c)(h : ∃ (w0 : World) (F : Nat → Prop) (rs : List RowS) (ls : List (Nat × Obj)) (ps : List (Nat × TypeId × List Value)), Many w0 F W rs ls ps ∧
   ∃ r : RowS, rs[j]? = some r ∧ r.e = e ∧ r.sz = 1 ∧ a.eval s = r.v ∧ r.n + 1 ≤ maxLen ∧ (r.n + 1) * bytes ≤ 140737488355328 ∧ r.base ≤ w0.heap.size ∧
   ∃ (u : Value) (g' : Nat) (m : Nat × Nat), (g', Obj.cells #[u] e m) ∈ ls ∧ g' = g ∧ u.oneCell' = true ∧
   ∀ sa sc w', Many w0 F w' (rs.set j ⟨r.base, r.e, .slice sa (r.n + 1) sc, r.n + 1, r.xs ++ [u], r.sz⟩) ls ps → K (a.put o.dst (.slice sa (r.n + 1) sc)) w'): if Region.wanted o (yielded ops a.tmps) = true then Oper.wp P o a W K Q else R := by
 obtain ⟨w0, F, rs, ls, ps, h, r, hr, rfl, hsz, hs, h63, hbytes, hbase, u, g', m, hl, rfl, h1, hK⟩ := h
 have hw : Region.wanted o (yielded ops a.tmps) = true := by simp [Region.wanted, hgd]
 rw [if_pos hw]
 have hu : W.cell? ⟨g', 0, none⟩ = some u := by simpa using zJ (h.lit _ hl).1 0 (by simp)
 obtain ⟨v', w', hrun, h2, h3, h4⟩ := oX (P := P) r.base t o.type E r.v r.n r.xs (by have := h.own j r hr; rwa [hsz] at this) g' c u hu h1 h63 hbytes (Nat.le_trans hbase h.but.size)
 obtain ⟨sa, sc, rfl⟩ := rU h2
 unfold Oper.wp execOp
 simp only [ho, resolve, invoke, builtin, Sem.run_bind, Sem.run_pure, Result.andThen_ok, List.map_toArray, List.map_cons, List.map_nil, hs, hx, hrun]
 exact hK sa sc w' (h.append hr (by rw [hsz]; exact h2) h3 h4)
end
theorem Many.two {w:World}{r s:RowS}(hr:w.ownsRow r.base r.e r.sz r.v r.n r.xs)(hs:w.ownsRow s.base s.e s.sz s.v s.n s.xs)(hne:∀ k,r.v.ownBlock=some k->s.v.ownBlock≠some k):
  Many w (fun k=>r.v.ownBlock=some k\/s.v.ownBlock=some k) w [r,s] [] [] where
 own:=fun j x hx=>by
  match j,hx with
  | 0,hx=>simp at hx;subst hx;exact hr
  | 1,hx=>simp at hx;subst hx;exact hs
 mine:=fun j x hx k hk=>by
  match j,hx with
  | 0,hx=>simp at hx;subst hx;exact .inl (.inl hk)
  | 1,hx=>simp at hx;subst hx;exact .inl (.inr hk)
 apart:=fun i j x y hij hx hy k hk=>by
  match i,j,hij,hx,hy with
  | 0,1,_,hx,hy=>simp at hx hy;subst hx;subst hy;exact hne k hk
  | 1,0,_,hx,hy=>simp at hx hy;subst hx;subst hy;exact fun e=>hne k e hk
  | 0,0,h,_,_=>exact absurd rfl h
  | 1,1,h,_,_=>exact absurd rfl h
 lit:=fun p hp=>by simp at hp
 pre:=fun p hp=>by simp at hp
 but:=GrownBut.refl _ _
theorem Many.see {w0 W:World}{F:Nat->Prop}{rs:List RowS}{ls:List (Nat×Obj)}{ps:List (Nat×TypeId×List Value)}(h:Many w0 F W rs ls ps){j g cap:Nat}{r:RowS}(hr:rs[j]?=some r)(hv:r.v=.slice (some ⟨g,0,none⟩) r.n cap)(hz:r.sz=1):Many w0 F W rs ls ((g,r.e,r.xs)::ps) where
 own:=h.own
 mine:=h.mine
 apart:=h.apart
 lit:=h.lit
 pre:=fun p hp=>by
  rcases List.mem_cons.1 hp with rfl|hp
  ·have ho:=h.own j r hr
   rw[hv,hz]at ho
   refine⟨Arr.of_owns ho,fun i s hs e=>?_⟩
   by_cases hij:i=j
   ·subst hij
    rw[hr]at hs
    have:=Oj hs
    subst this
    exact⟨List.prefix_refl _,rfl,hz⟩
   ·exact absurd (by rw[hv];rfl) (h.apart i j s r hij hs hr g e)
  ·exact h.pre p hp
 but:=h.but
def qHS (w:World)(sz:Nat)(sv:Value)(m:Nat)(news:List Value):Prop :=
 (∃ a cap,sv=.slice a 0 cap/\m=0/\news=[])\/∃ b off cap,sv=.slice (some ⟨b,off,none⟩) m cap/\news.length=m * sz/\m<=maxLen/\∀ j u,news[j]?=some u->w.cell? ⟨b,off+j,none⟩=some u
theorem Row.src {B:Nat}{w:World}{v:Value}{xs:List Value}(h:Row B w v xs):qHS w 1 v xs.length xs:=by
 rcases h with ⟨a,cap,rfl,rfl⟩|⟨b,off,cap,rfl,_,h2,h3,hra⟩
 ·exact .inl ⟨a,cap,rfl,rfl,rfl⟩
 ·refine .inr ⟨b,off,cap,rfl,by omega,by omega,fun j u hj=>?_⟩
  have h0:j<xs.length:=by
   rcases Nat.lt_or_ge j xs.length with h|h
   ·exact h
   ·rw[List.getElem?_eq_none h]at hj;cases hj
  rw[List.getElem?_eq_getElem h0]at hj;rw[hra.2 j h0,hj]
theorem run_append_movedR {P:Program}{w:World}(base:Nat)(t ty:TypeId){e:TypeId}{sz:Nat}{z:Value}{bytes:Nat}(E:ElemN P t e sz z bytes)(v:Value)(n:Nat)(xs:List Value)(hown:w.ownsRow base e sz v n xs)(sv:Value)(m:Nat)(news:List Value)(hrow:qHS w sz sv m news)(h1:∀ u∈news,u.oneCell'=true)(h63:n+m<=maxLen)(hbytes:(n+m) * bytes<=140737488355328)(hbase:base<=w.heap.size):
  ∃ v' w',(Builtin.append_ #[t,t] ty #[v,sv]).run P w=.ok v' w'/\w'.ownsRow base e sz v' (n+m) (xs++news)/\w.grownBy w' v.ownBlock/\qP w w' v v':=by
 obtain⟨i,hi,hz,h5,H0⟩:=info_parts E.hi;have h7:=E.pos;have H1:n+m<=9223372036854775807:=by simp only[maxLen]at h63;omega
 have H2:∀ (b off j:Nat),(⟨b,off,none⟩:Addr).add j=⟨b,off+j,none⟩:=fun b off j=>by unfold Addr.add;split<;>simp_all
 have stay:∀ (a':Addr) (cap:Nat),m=0->news=[]->∃ v' w',(Builtin.append_ #[t,t] ty #[v,.slice (some a') 0 cap]).run P w=.ok v' w'/\w'.ownsRow base e sz v' (n+m) (xs++news)/\w.grownBy w' v.ownBlock/\qP w w' v v':=by
  intro a' cap h9 hn;subst hn;subst h9;obtain⟨v',w',hr,h2,h3,h4⟩:=run_append_own (P:=P) w base t ty e i z sz bytes E.ht hi hz h5 H0 E.hz h7 v n xs hown a' 0 cap [] (by simp) (fun j u hj=>by simp at hj) (fun u hu=>by simp at hu) (by simpa using h63) (by simpa using hbytes) hbase;refine⟨v',w',hr,h2,h3,?_⟩;rcases hown.2 with ⟨rfl,rfl⟩|⟨b,bc,cur,rfl,hb,hg,hnc,hcm,hcs,htake⟩
  ·have:=h4.2 ⟨rfl,rfl⟩
   subst this;exact .inl rfl
  ·obtain⟨w2,h6,_⟩:=run_append_fits (P:=P) w base t ty e i sz E.ht hi h5 b n bc xs hown a' 0 cap [] (by simp) (fun j u hj=>by simp at hj) (fun u hu=>by simp at hu) (by omega)
   rw[h6]at hr;injection hr with e1 e2;subst e1;exact .inl rfl
 rcases hrow with ⟨a',cap,rfl,rfl,rfl⟩|⟨b,off,cap,rfl,hnl,hml,hra⟩
 ·cases a' with
  | none =>
   have hr:(Builtin.append_ #[t,t] ty #[v,.slice none 0 cap]).run P w=.ok v w:=by
    rcases hown.2 with ⟨rfl,rfl⟩|⟨g,gc,cur,rfl,_,_,hnc,_⟩
    ·simp[Builtin.append_,run_underlying E.ht,sizeOf,typeInfo,hi,Builtin.lenOf,Builtin.firstCells]
    ·simp[Builtin.append_,run_underlying E.ht,sizeOf,typeInfo,hi,Builtin.lenOf,Builtin.firstCells,hnc,storeCells]
   exact⟨v,w,hr,by simpa using hown,zM _ _,.inl rfl⟩
  | some a'=>exact stay a' cap rfl rfl
 ·by_cases h9:m=0
  ·have H3:news=[]:=List.eq_nil_of_length_eq_zero (by rw[hnl,h9];simp)
   subst h9;exact stay _ _ rfl H3
  have h0:∀ j u',news[j]?=some u'->w.cell? ((⟨b,off,none⟩:Addr).add j)=some u':=fun j u' hj=>by rw[H2];exact hra j u' hj
  obtain⟨v',w',hr,H6,H5,_⟩:=run_append_own (P:=P) w base t ty e i z sz bytes E.ht hi hz h5 H0 E.hz h7 v n xs hown ⟨b,off,none⟩ m cap news hnl h0 h1 h63 hbytes hbase;refine⟨v',w',hr,H6,H5,?_⟩;rcases hown.2 with ⟨rfl,rfl⟩|⟨g,gc,cur,rfl,hb,hg,hnc,hcm,hcs,htake⟩
  ·have h6:=run_append_nil (P:=P) w t ty e i z E.ht hi hz ⟨b,off,none⟩ m cap news (by rw[hnl,h5]) h0 (by omega) (by omega) (by rw[H0];simp at hbytes;omega)
   rw[h6]at hr;injection hr with e1 e2;subst e1;subst e2;refine .inr ⟨vI (Ga w _ none) rfl rfl rfl rfl,fun k hk=>?_⟩;have:w.heap.size=k:=by simpa [Value.ownBlock] using hk
   omega
  ·by_cases hroom:n+m<=gc
   ·obtain⟨w2,h6,_⟩:=run_append_fits (P:=P) w base t ty e i sz E.ht hi h5 g n gc xs hown ⟨b,off,none⟩ m cap news hnl h0 h1 hroom
    rw[h6]at hr;injection hr with e1 e2;subst e1;exact .inl rfl
   ·have h8:∀ j u,xs[j]?=some u->w.cell? ((⟨g,0,none⟩:Addr).add j)=some u:=hown.cells (g:=g) rfl
    have H4:xs.length=n * i.size:=by rw[h5];exact hown.1
    have h6:=run_append_grow (P:=P) w t ty e i z E.ht hi hz ⟨g,0,none⟩ n gc xs H4 h8 ⟨b,off,none⟩ m cap news (by rw[hnl,h5]) h0 (by omega) (by omega) (growslice_fits (by omega) (by rw[H0];exact hbytes));rw[h6]at hr;injection hr with e1 e2;subst e1;subst e2;refine .inr ⟨vI (Ga w _ none) rfl rfl rfl rfl,fun k hk=>?_⟩;have:w.heap.size=k:=by simpa [Value.ownBlock] using hk
    omega
section
variable {w0 W W':World} {F:Nat->Prop} {rs:List RowS} {ls ls':List (Nat×Obj)} {ps:List (Nat×TypeId×List Value)}
end
def wW (a0:Act)(l:List (Nat×Value)):Act:=l.foldl (fun a p=>a.put (some p.1) p.2) a0
section
variable {P:Program} {md:Region.Mode} {ops:Array Oper} {Q:Exit->Act->World->Prop} {G:Array Bool->World->Prop}
theorem wpAnyG_named {fuel:Nat}{listed:Array Bool}{a:Act}{w:World}(h:∀ Wp:Nat->Array Bool->Act->World->Prop,Wp=uG P md ops Q G->∀ a0,a0=a->Wp fuel listed a0 w):uG P md ops Q G fuel listed a w:=h _ rfl _ rfl
end
section
variable {P:Program} {md:Region.Mode} {ops:Array Oper} {Q:Exit->Act->World->Prop} {G:Array Bool->World->Prop}
theorem cE (I : Array Bool → Act → World → Prop)(hG : ∀ l a w, I l a w → G l w)(hstep : ∀ i o, ops[i]? = some o → ∀ listed a w, I listed a w → listed.getD i true = false → (∀ e ∈ o.after, Region.binds md e = true → listed.getD e.on false = true) →
   ∀ K' : Act → World → Prop, Shut (∀ a w, I (listed.setIfInBounds i true) a w → K' a w) → if Region.wanted o (yielded ops a.tmps) = true then Oper.wp P o a w K' Q else K' (a.put o.dst undef) w)(hend : ∀ listed a w, I listed a w → Region.ready md ops listed = [] → Q .normal a w):
  ∀ (fuel : Nat) (listed : Array Bool) (a : Act) (w : World), qEA ops listed ≤ fuel → I listed a w → uG P md ops Q G fuel listed a w
 | 0, listed, a, w, hf, hI => by
  have hr : Region.ready md ops listed = [] := by
   rcases h : Region.ready md ops listed with _ | ⟨i, l⟩
   ·rfl
   ·have := cI (md := md) (ops := ops) (listed := listed) (i := i) (by rw [h]; exact List.mem_cons_self)
    omega
  exact ⟨hr, hend _ _ _ hI hr⟩
 | fuel + 1, listed, a, w, hf, hI => by
  refine ⟨hend _ _ _ hI, fun i hi => ?_⟩
  obtain ⟨h0, o, ho, hall⟩ := mem_ready.1 hi
  have hu := cI hi
  exact wpOp_mono (fun a' w' h => ⟨hG _ _ _ h, cE I hG hstep hend fuel _ a' w' (by omega) h⟩) (wpOp_step (K := I (listed.setIfInBounds i true)) ho (fun K' hK => hstep i o ho _ _ _ hI h0 hall K' hK))
def qIV (P:Program)(md:Region.Mode)(ops:Array Oper)(Q:Exit->Act->World->Prop)(I:Array Bool->Act->World->Prop)(i:Nat)(o:Oper):Prop :=
 ∀ listed a w,I listed a w->listed.getD i true=false->(∀ e∈o.after,Region.binds md e=true->listed.getD e.on false=true) ->
  ∀ K':Act->World->Prop,Shut (∀ a w,I (listed.setIfInBounds i true) a w->K' a w)->if Region.wanted o (yielded ops a.tmps)=true then Oper.wp P o a w K' Q else K' (a.put o.dst undef) w
def dZ (S:Nat->Oper->Prop):Nat->List Oper->Prop
 | _,[]=>True
 | k,o::l=>S k o/\dZ S (k+1) l
theorem dZ.get {S:Nat->Oper->Prop}:∀ {k:Nat} {l:List Oper},dZ S k l->∀ i o,l[i]?=some o->S (k+i) o
 | _,[],_,i,o,h=>by simp at h
 | k,x::l,h,0,o,e=>by
  have e:x=o:=by simpa using e
  subst e;exact h.1
 | k,x::l,h,i+1,o,e=>by
  have:=dZ.get h.2 i o (by simpa using e)
  rwa [Nat.add_right_comm,Nat.add_assoc]at this
theorem allOps {S:Nat->Oper->Prop}{ops:Array Oper}(h:dZ S 0 ops.toList):∀ i o,ops[i]?=some o->S i o:=fun i o ho=>by
 have:=h.get i o (by simpa using ho)
 rwa [Nat.zero_add]at this
def qJF (ops:Array Oper):Bool:=(List.range ops.size).all fun i=>match ops[i]? with|some o=>o.after.all fun e=>decide (e.on<i)|none=>true
theorem all_listed {listed:Array Bool}(hw:qJF ops=true)(hr:Region.ready md ops listed=[]):∀ j,j<ops.size->listed.getD j true=true:=by
 intro j
 induction j using Nat.strongRecOn with
 | ind j ih =>
  intro hj;rcases hl:listed.getD j true with _|_
  ·exfalso
   have h0:j<listed.size:=by
    rcases Nat.lt_or_ge j listed.size with h|h
    ·exact h
    ·simp[h]at hl
   have hm:j∈Region.ready md ops listed:=by
    refine mem_ready.2 ⟨hl,ops[j],Array.getElem?_eq_getElem hj,fun e he _=>?_⟩;have h1:=List.all_eq_true.1 hw j (List.mem_range.2 hj);rw[Array.getElem?_eq_getElem hj]at h1
    have h2:e.on<j:=by
     have:=Array.all_eq_true'.1 h1 e he;simpa using this
    have h3:=ih e.on h2 (by omega);have h4:e.on<listed.size:=(by omega);simpa [h4] using h3
   rw[hr]at hm;cases hm
  ·rfl
theorem wpAnyG_steps (I:Array Bool->Act->World->Prop)(hG:∀ l a w,I l a w->G l w)(hstep:∀ (ops':Array Oper) (Q':Exit->Act->World->Prop),dZ (qIV P md ops' Q' I) 0 ops.toList)(hw:qJF ops=true)(hend:∀ listed a w,I listed a w->(∀ j,j<ops.size->listed.getD j true=true)->Q .normal a w){fuel:Nat}{listed:Array Bool}{a:Act}{w:World}(hf:qEA ops listed<=fuel)(hI:I listed a w):uG P md ops Q G fuel listed a w :=
 cE I hG (allOps (hstep ops Q)) (fun l a w h hr=>hend l a w h (all_listed hw hr)) fuel listed a w hf hI
end
theorem uX {l:Array Bool}{j:Nat}(h:l.getD j false=true):l.getD j true=true:=by
 rcases Nat.lt_or_ge j l.size with h'|h'
 ·simp[h']at h ⊢;exact h
 ·simp[h']at h
theorem zZ {l:Array Bool}{i j:Nat}(h:l.getD j true=true):(l.setIfInBounds i true).getD j true=true:=by
 by_cases e:i=j
 ·subst e;exact vV
 ·rwa [Go.getD_set_ne true e]
theorem zK {l:Array Bool}{i j:Nat}(hne:i≠j)(h:(l.setIfInBounds i true).getD j true=true):l.getD j true=true:=by rwa [Go.getD_set_ne true hne]at h
theorem yO {l:Array Bool}{i j:Nat}(h:(l.setIfInBounds i true).getD j true=false):l.getD j true=false:=by
 by_cases e:i=j
 ·subst e;rw[vV]at h;cases h
 ·rwa [Go.getD_set_ne true e]at h
theorem kR {l:Array Bool}{i:Nat}{p:Prop}(h:(l.setIfInBounds i true).getD i true=false):p:=by rw[vV]at h;cases h
section
variable {w0 W W':World} {F:Nat->Prop} {rs:List RowS} {ls:List (Nat×Obj)}
theorem Many.far (h:Many w0 F W rs ls []){r:Nat}(hg:W.grownBy W' (some r))(hF:F r)(hlt:r<w0.heap.size)(hne:∀ (j:Nat) (s:RowS),rs[j]?=some s->s.v.ownBlock≠some r):Many w0 F W' rs ls [] where
 own:=fun j s hs=>(h.own j s hs).kept hg (.inr (hne j s hs))
 mine:=h.mine
 apart:=h.apart
 lit:=fun p hp=>⟨zA (h.lit p hp).1 hg (fun e=>by have e:=Oj e;have:=(h.lit p hp).2.2;omega),(h.lit p hp).2⟩
 pre:=fun p hp=>by cases hp
 but:=h.but.step hg (fun k e=>.inl (by have e:=Oj e;subst e;exact hF))
end
theorem cL {P:Program}{W:World}{o:Oper}{a:Act}{K:Act->World->Prop}{Q:Exit->Act->World->Prop}{R c0:Prop}[Decidable c0](hc0:c0)(s x:Operand)(t:TypeId)(ho:o.op=.call { callee:=.builtin .append,args:=#[s,x],argTypes:=#[t,t] }){e:TypeId}{z:Value}{bytes:Nat}(E:ElemOk P t e z bytes)(j:Nat)(g c:Nat)(hx:a.eval x=.slice (some ⟨g,0,none⟩) 1 c){w0:World}{F:Nat->Prop}{rs:List RowS}{ls:List (Nat×Obj)}{ps:List (Nat×TypeId×List Value)}(h:Many w0 F W rs ls ps){r:RowS}(hr:rs[j]?=some r)(he:r.e=e)(hsz:r.sz=1)(hs:a.eval s=r.v)(h63:r.n+1<=maxLen)(hbytes:(r.n+1) * bytes<=140737488355328)(hbase:r.base<=w0.heap.size){u:Value}{m:Nat×Nat}(hl:(g,Obj.cells #[u] e m)∈ls)(h1:u.oneCell'=true)(hK:∀ sa sc w',Many w0 F w' (rs.set j ⟨r.base,r.e,.slice sa (r.n+1) sc,r.n+1,r.xs++[u],r.sz⟩) ls ps->W.grownBy w' r.v.ownBlock->K (a.put o.dst (.slice sa (r.n+1) sc)) w'):if c0 then Oper.wp P o a W K Q else R:=by
 subst he;rw[if_pos hc0];have hu:W.cell? ⟨g,0,none⟩=some u:=by simpa using zJ (h.lit _ hl).1 0 (by simp)
 obtain⟨v',w',h0,h2,h3,h4⟩:=oX (P:=P) r.base t o.type E r.v r.n r.xs (by have:=h.own j r hr;rwa [hsz]at this) g c u hu h1 h63 hbytes (Nat.le_trans hbase h.but.size);obtain⟨sa,sc,rfl⟩:=rU h2;unfold Oper.wp execOp;simp only[ho,resolve,invoke,builtin,Sem.run_bind,Sem.run_pure,Result.andThen_ok,List.map_toArray,List.map_cons,List.map_nil,hs,hx,h0];exact hK sa sc w' (h.append hr (by rw[hsz];exact h2) h3 h4) h3
theorem iQ {a0:Act}:∀ {l:List (Nat×Value)},(∀ p∈l,p.2=a0.tmps.getD p.1 undef)->wW a0 l=a0
 | [],_=>rfl
 | p::l,h=>by
  have h1:=h p List.mem_cons_self
  have hp:a0.put (some p.1) p.2=a0:=by
   rw[h1];show Act.mk (a0.tmps.setIfInBounds p.1 (a0.tmps.getD p.1 undef)) a0.defers=a0
   have:a0.tmps.setIfInBounds p.1 (a0.tmps.getD p.1 undef)=a0.tmps:=by
    apply Array.ext
    ·simp
    ·intro i h1 h2
     rw[Array.getElem_setIfInBounds]
     split
     ·rename_i e;subst e;simp[h2]
     ·rfl
   rw[this]
  show wW (a0.put (some p.1) p.2) l=a0;rw[hp];exact iQ fun q hq=>h q (List.mem_cons_of_mem _ hq)
theorem Many.start {w:World}{F:Nat->Prop}{rs:List RowS}(hown:∀ r∈rs,w.ownsRow r.base r.e r.sz r.v r.n r.xs)(hF:∀ r∈rs,∀ k,r.v.ownBlock=some k->F k)(hap:rs.Pairwise (fun r s=>∀ k,r.v.ownBlock=some k->s.v.ownBlock≠some k)):Many w F w rs [] [] where
 own:=fun j r hr=>hown r (List.mem_of_getElem? hr)
 mine:=fun j r hr k hk=>.inl (hF r (List.mem_of_getElem? hr) k hk)
 apart:=fun i j r s hij hr hs k hk hk2=>by
  obtain⟨hi,hri⟩:=List.getElem?_eq_some_iff.1 hr
  obtain⟨hj,hsj⟩:=List.getElem?_eq_some_iff.1 hs
  rcases Nat.lt_or_gt_of_ne hij with h|h
  ·have:=List.pairwise_iff_getElem.1 hap i j hi hj h k
   rw[hri,hsj]at this
   exact this hk hk2
  ·have:=List.pairwise_iff_getElem.1 hap j i hj hi h k
   rw[hri,hsj]at this
   exact this hk2 hk
 lit:=fun p hp=>by simp at hp
 pre:=fun p hp=>by simp at hp
 but:=GrownBut.refl _ _
def nY:Code->Nat->Option (Array Oper)
 | .region i ops _,k=>if i=k then some ops else none
 | .seq a b,k=>match nY a k with
  | some o=>some o
  | none=>nY b k
 | .cond _ a b,k=>match nY a k with
  | some o=>some o
  | none=>nY b k
 | .block _ b,k=>nY b k
 | .loop b,k=>nY b k
 | .scope b,k=>nY b k
 | _,_=>none
def regionOps (f:Func)(k:Nat):Array Oper:=match f.body with
 | some b=>(nY b k).getD #[]
 | none=>#[]
end Go.Proofs.Ytjfdomfendbhfaa
