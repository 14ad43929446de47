/- Part 9 of the proof: Ends, AppR, Extend, KeyI, Dfa0, MapNo, MapStr, MapK, Byte1. -/
import Derived.Test.YtjfdomfendbhfaaQe8
import Derived.Deep.RegionHeld3
import Derived.Deep.DrawnRows
import Derived.Maps.Own
import Derived.Maps.Views
import Derived.Maps.OwnSet
import Derived.Maps.OwnOps
import Derived.Deep.DeepCutAuto
import Derived.Deep.CutBlock
import Derived.StringKeys
set_option linter.unusedVariables false
set_option linter.unusedSimpArgs false
namespace Go.Proofs.Ytjfdomfendbhfaa
open Go.RowKit
def oneB (u:List Int):List (List Int):=[u]
def sufB (u:List Int):List (List Int):=[[],u]
def preB (u:List Int):List (List Int):=[u,[]]
def facB (u:List Int):List (List Int):=[[],u,[]]
theorem gN {letters k:Nat} (h:1<=letters):1<=(upTo letters (k+1)).length:=by
 rw[xH,List.length_append,vD]
 have:=Nat.one_le_pow k letters (by omega);omega
theorem bO {letters k:Nat} (h:1<=letters) (hk:1<=k):2<=(upTo letters (k+1)).length:=by
 obtain⟨k',rfl⟩:∃ k',k=k'+1:=⟨k - 1,by omega⟩
 rw[xH,xH,List.length_append,List.length_append,vD,vD]
 have:=Nat.one_le_pow k' letters (by omega);have:=Nat.one_le_pow (k'+1) letters (by omega);omega
theorem upTo_len8 {letters n:Nat} (hn:n<=9) {u:List Int} (hu:u∈upTo letters n):u.length<=8:=by
 simp only[upTo,List.mem_flatMap,List.mem_range]at hu
 obtain⟨m,hm,hu⟩:=hu
 rw[(tW hu).1];omega
theorem run_append_of_nil {P:Program} {w:World} (base:Nat) (t ty e:TypeId) (i:TypeInfo) (size:Nat) (ht:P.underlying t=some (.slice e)) (hi:P.info? e=some i)
  (v:Value) (n:Nat) (xs:List Value) (hown:w.ownsRow base e size v n xs) (c:Nat):(Builtin.append_ #[t,t] ty #[v,.slice none 0 c]).run P w=.ok v w:=by
 rcases hown.2 with ⟨rfl,rfl⟩|⟨g,cap,cur,rfl,_,_,hnc,_⟩
 ·simp[Builtin.append_,run_underlying ht,sizeOf,typeInfo,hi,Builtin.lenOf,Builtin.firstCells]
 ·simp[Builtin.append_,run_underlying ht,sizeOf,typeInfo,hi,Builtin.lenOf,Builtin.firstCells,hnc,storeCells]
theorem sI {w:World} {base e size n:Nat} {v:Value} {xs:List Value} (h:w.ownsRow base e size v n xs):∃ sa sc,v=.slice sa n sc:=by
 rcases h.2 with ⟨rfl,rfl⟩|⟨g,cap,cur,rfl,_⟩
 ·exact⟨none,0,rfl⟩
 ·exact⟨_,_,rfl⟩
theorem wp_appR {P:Program} {w:World} {o:Oper} {a:Act} {K:Act->World->Prop} {Q:Exit->Act->World->Prop} (s x:Operand) (t:TypeId)
  (ho:o.op=.call { callee:=.builtin .append,args:=#[s,x],argTypes:=#[t,t] })
  {e:TypeId} {z:Value} {bytes:Nat} (E:ElemOk P t e z bytes) (base:Nat) (v:Value) (n:Nat) (xs:List Value) (hs:a.eval s=v) (hown:w.ownsRow base e 1 v n xs)
  (sv:Value) (news:List Value) (hx:a.eval x=sv) (hrow:∃ B,Row B w sv news) (h1:∀ u∈news,u.oneCell'=true) (N:Nat) (hN:n+news.length=N) (h63:N<=maxLen) (hbytes:N * bytes<=140737488355328) (hbase:base<=w.heap.size)
  (h:∀ sa sc w',w'.ownsRow base e 1 (.slice sa N sc) N (xs ++ news)->w.grownBy w' v.ownBlock->K (a.put o.dst (.slice sa N sc)) w'):o.wp P a w K Q:=by
 obtain⟨i,hi,hz,h4,h6⟩:=info_parts E.hi
 subst hN
 have fin:∀ v' w',w'.ownsRow base e 1 v' (n+news.length) (xs ++ news)->w.grownBy w' v.ownBlock->K (a.put o.dst v') w':=by
  intro v' w' h1 h2
  obtain⟨sa,sc,rfl⟩:=sI h1
  exact h sa sc w' h1 h2
 obtain⟨B,hrow⟩:=hrow
 rcases hrow with ⟨a',cap,rfl,rfl⟩|⟨b,off,cap,rfl,_,h2,h3,hra⟩
 ·cases a' with
  | none =>
   have hr:=run_append_of_nil (P:=P) (w:=w) base t o.type e i 1 E.ht hi v n xs hown cap
   unfold Oper.wp execOp
   simp only[ho,resolve,invoke,builtin,Sem.run_bind,Sem.run_pure,Result.andThen_ok,List.map_toArray,List.map_cons,List.map_nil,hs,hx,hr]
   exact fin v w (by simpa using hown) (World.grownBy.refl w _)
  | some ad =>
   refine wp_append_own w s x t ho base e i z 1 bytes E.ht hi hz h4 h6 E.hz (by decide) v n xs hs hown ad 0 cap [] hx rfl (fun j u hj=>by simp at hj) (fun u hu=>by simp at hu) h63 hbytes hbase ?_
   intro v' w' h1 h2 _
   exact fin v' w' h1 h2
 ·refine wp_append_own w s x t ho base e i z 1 bytes E.ht hi hz h4 h6 E.hz (by decide) v n xs hs hown ⟨b,off,none⟩ news.length cap news hx (by simp) (fun j u' hj=>?_) h1 h63 hbytes hbase ?_
  ·have h5:j < news.length:=by
    rcases Nat.lt_or_ge j news.length with h|h
    ·exact h
    ·rw[List.getElem?_eq_none h]at hj;cases hj
   have h0:(⟨b,off,none⟩:Addr).add j=⟨b,off+j,none⟩:=by unfold Addr.add;split <;> simp_all
   rw[List.getElem?_eq_getElem h5]at hj
   rw[h0,hra.2 j h5,hj]
  ·intro v' w' h1 h2 _
   exact fin v' w' h1 h2
theorem appR {P:Program} {w:World} {ops:Array Oper} {rest:List Oper} {o:Oper} {a:Act} {Q:Exit->Act->World->Prop} (hgd:o.guard=none) (s x:Operand) (t:TypeId)
  (ho:o.op=.call { callee:=.builtin .append,args:=#[s,x],argTypes:=#[t,t] })
  {e:TypeId} {z:Value} {bytes:Nat} (E:ElemOk P t e z bytes) (base:Nat) (v:Value) (n:Nat) (xs:List Value) (hs:a.eval s=v) (hown:w.ownsRow base e 1 v n xs)
  (sv:Value) (news:List Value) (hx:a.eval x=sv) (hrow:∃ B,Row B w sv news) (h1:∀ u∈news,u.oneCell'=true) (N:Nat) (hN:n+news.length=N) (h63:N<=maxLen) (hbytes:N * bytes<=140737488355328) (hbase:base<=w.heap.size)
  (h:∀ sa sc w',w'.ownsRow base e 1 (.slice sa N sc) N (xs ++ news)->w.grownBy w' v.ownBlock->wpList P ops Q rest (a.put o.dst (.slice sa N sc)) w'):wpList P ops Q (o :: rest) a w :=
 wpList_plain hgd fun _ hK=>wp_appR s x t ho E base v n xs hs hown sv news hx hrow h1 N hN h63 hbytes hbase fun sa sc w' h2 h3=>hK _ _ (h sa sc w' h2 h3)
theorem tR (w:World) (o o':Obj):((w.alloc o).alloc o').heap[w.heap.size]?=some o:=zA (heap_alloc_new w o) (Ga _ _ none) (by simp)
theorem tO (w:World) (o o':Obj):((w.alloc o).alloc o').heap[w.heap.size+1]?=some o':=by
 have:=heap_alloc_new (w.alloc o) o'
 rwa [zM]at this
theorem vH.take {w:World} {b off:Nat} {xs:List Value} (h:vH w b off xs) (k:Nat):vH w b off (xs.take k) :=
 ⟨h.1,fun i hi=>by rw[List.length_take]at hi;rw[h.2 i (by omega),List.getElem_take]⟩
theorem vH.drop {w:World} {b off:Nat} {xs:List Value} (h:vH w b off xs) (k:Nat):vH w b (off+k) (xs.drop k) :=
 ⟨h.1,fun i hi=>by rw[List.length_drop]at hi;rw[Nat.add_assoc,h.2 (k+i) (by omega),List.getElem_drop]⟩
theorem make0 {P:Program} {w:World} {ops:Array Oper} {rest:List Oper} {o:Oper} {a:Act} {Q:Exit->Act->World->Prop} (hgd:o.guard=none) (l c:Operand) (t:TypeId) (ho:o.op=.makeSlice t l c)
  {e:TypeId} {z:Value} {bytes:Nat} (E:ElemOk P t e z bytes) (kl kc:IntKind) (C:Int) (n:Nat) (hl:a.eval l=.int kl 0) (hc:a.eval c=.int kc C) (hC:C=(n:Int)) (hb:bytes * n<=281474976710656) (h63:n<=maxLen)
  (h:∀ w',w'.ownsRow w.heap.size e 1 (.slice (some ⟨w.heap.size,0,none⟩) 0 n) 0 []->w.grownBy w' none->wpList P ops Q rest (a.put o.dst (.slice (some ⟨w.heap.size,0,none⟩) 0 n)) w'):wpList P ops Q (o :: rest) a w:=by
 obtain⟨i,hi,h0,h1,h2⟩:=info_parts E.hi
 exact wpList_make_own w hgd l c t ho w.heap.size e i z 1 E.ht hi h0 h1 kl kc C n hl hc hC (by rw[h2];exact hb) h63 (Nat.le_refl _) h
end Go.Proofs.Ytjfdomfendbhfaa
namespace Go.Proofs.Ytjfdomfendbhfaa
open Go.RowKit Go.Maps
theorem fQ:Keyed Try.prog 3:=int_keyed (q:=.i64) (by kernel_rfl)
end Go.Proofs.Ytjfdomfendbhfaa
namespace Go.Proofs.Ytjfdomfendbhfaa
open Go.RowKit
def tE (B:Nat) (w:World) (v:Value) (d:DfaV):Prop:=∃ fv nv,v=.agg #[.int .i64 d.letters,.int .i64 d.start,fv,nv]/\Row B w fv (bls d.final)/\Mat B w nv d.next
theorem tE.kept {B:Nat} {w w':World} {v:Value} {d:DfaV} {row:Option Nat} (h:tE B w v d) (hg:w.grownBy w' row) (hr:∀ k,row=some k->B<=k):tE B w' v d:=by
 obtain⟨fv,nv,h1,h2,h3⟩:=h
 exact⟨fv,nv,h1,h2.kept hg hr,h3.kept hg hr⟩
theorem tE.mono {B B':Nat} {w:World} {v:Value} {d:DfaV} (h:tE B w v d) (hB:B<=B'):tE B' w v d:=by
 obtain⟨fv,nv,h1,h2,h3⟩:=h
 exact⟨fv,nv,h1,h2.mono hB,h3.mono hB⟩
theorem validD_letters {d:DfaV} (h:d.letters < 1\/6 < d.letters):xW d=1:=by rw[xW,if_pos h]
theorem validD_big {d:DfaV} (h:¬ (d.letters < 1\/6 < d.letters)) (h2:512 < d.final.length):xW d=3:=by rw[xW,if_neg h,if_pos h2]
theorem validD_shape {d:DfaV} (h:¬ (d.letters < 1\/6 < d.letters)) (h2:¬ 512 < d.final.length) (h3:d.final.length=0\/d.next.length≠d.final.length\/d.start < 0\/d.final.length<=d.start):xW d=4:=by rw[xW,if_neg h,if_neg h2,if_pos h3]
theorem mB {d:DfaV} (h:¬ (d.letters < 1\/6 < d.letters)) (h2:¬ 512 < d.final.length) (h3:¬ (d.final.length=0\/d.next.length≠d.final.length\/d.start < 0\/d.final.length<=d.start)) {q:Nat} (hq:q < d.next.length) (hb:rowD d.letters d.final.length (d.next.getD q [])=false):xW d=4:=by
 rw[xW,if_neg h,if_neg h2,if_neg h3,if_neg]
 intro ha
 have:=List.all_eq_true.1 ha d.next[q] (List.getElem_mem hq)
 rw[zF hq,this]at hb;cases hb
theorem validD_ok {d:DfaV} (h:¬ (d.letters < 1\/6 < d.letters)) (h2:¬ 512 < d.final.length) (h3:¬ (d.final.length=0\/d.next.length≠d.final.length\/d.start < 0\/d.final.length<=d.start)) (ha:∀ q,q < d.next.length->rowD d.letters d.final.length (d.next.getD q [])=true):xW d=0:=by
 rw[xW,if_neg h,if_neg h2,if_neg h3,if_pos]
 rw[List.all_eq_true]
 intro r hr
 obtain⟨q,hq,rfl⟩:=List.getElem_of_mem hr
 have:=ha q hq
 rwa [zF hq]at this
theorem rowD_len {k:Int} {n:Nat} {r:List Int} (h:(r.length:Int)≠k):rowD k n r=false:=by simp[rowD,h]
theorem bZ {k:Int} {n:Nat} {r:List Int} {y:Nat} (hy:y < r.length) (h:r.getD y 0 < 0\/n<=r.getD y 0):rowD k n r=false:=by
 rw[<- Bool.not_eq_true]
 intro hr
 have:=(pG.1 hr).2 y hy
 omega
def DRows (d:DfaV) (k:Nat):Prop:=∀ x,x < k->rowD d.letters d.final.length (d.next.getD x [])=true
end Go.Proofs.Ytjfdomfendbhfaa
namespace Go.Proofs.Ytjfdomfendbhfaa
open Go.RowKit Go.Maps
theorem uE:Try.prog.underlying 171=some (.map 3 3):=by kernel_rfl
theorem uV:Try.prog.underlying 3=some (.int .i64):=by kernel_rfl
theorem gK (w:World):(zeroValue 3).run Try.prog w=.ok (.int .i64 0) w:=by kernel_rfl
def Mid (x:Int):Prop:=-4611686018427387904 < x/\x < 4611686018427387904
theorem dO {x:Int} (hx:Mid x):(Lit.int .i64 x).wf=true:=by
 have h1:IntKind.i64.min = -9223372036854775808:=rfl
 have h2:IntKind.i64.max=9223372036854775807:=rfl
 obtain⟨h3,h4⟩:=hx
 simp[Lit.wf];omega
theorem bG {x:Int} (hx:Mid x):keyOf Try.prog 3 (.int .i64 x)=some (.int .i64 x):=keyOf_int_mk (q:=.i64) (by kernel_rfl) (dO hx)
def rA (w:World) (b n:Nat) (l:List Int):Prop :=
 ∃ D:DataW Unit,w.ownsMap Try.prog 3 (plainElem Try.prog 3) b n D/\size D=l.length /\
  ∀ x:Int,Mid x->has D (.int .i64 x)=decide (x∈l)/\D.atKey (.int .i64 x) (.lit (.int .i64 0))=.lit (.int .i64 (if x∈l then ((l.idxOf x:Nat):Int) else 0))
theorem rA.made (w:World):rA (w.alloc (.map #[] 0)) w.heap.size 0 []:=by
 refine⟨.map [],World.ownsMap_made _ _ _ _,rfl,fun x _=>⟨by simp[has_eq],?_⟩⟩
 rw[WideAt.atKey_none _ (by simp)]
 simp
theorem rA.kept {w w':World} {b n:Nat} {l:List Int} {row:Option Nat} (h:rA w b n l) (hg:w.grownBy w' row) (hne:row≠some b):rA w' b n l:=by
 obtain⟨D,h1,h2,h3⟩:=h
 exact⟨D,h1.kept hg (fun e=>hne e.symm),h2,h3⟩
theorem rA.mono {w:World} {b n n':Nat} {l:List Int} (h:rA w b n l) (hn:n<=n'):rA w b n' l:=by
 obtain⟨D,h1,h2,h3⟩:=h
 exact⟨D,h1.mono hn,h2,h3⟩
theorem rA.lt {w:World} {b n:Nat} {l:List Int} (h:rA w b n l):b < w.heap.size:=by
 obtain⟨D,h1,_⟩:=h
 exact h1.lt
theorem rA.lookup {w:World} {b n:Nat} {l:List Int} (h:rA w b n l) {x:Int} (hx:Mid x):(Instr.lookup 171 (.map (some b)) (.int .i64 x) true).run Try.prog w=.ok (.tuple #[.int .i64 (if x∈l then ((l.idxOf x:Nat):Int) else 0),.bool (decide (x∈l))]) w:=by
 obtain⟨D,h1,h2,h3⟩:=h
 obtain⟨v,ps,h0,hv⟩:=h1.look_ok fQ uE (gK w) (plainElem_int uV (by decide)) (bG hx)
 obtain⟨c,rfl,hc,_⟩:=plainElem_int_inv uV hv
 obtain⟨e1,e2⟩:=h3 x hx
 have e3:=congrArg Prod.fst hc
 simp only[e2]at e3
 rw[h0,e1]
 have e4:(if x∈l then ((l.idxOf x:Nat):Int) else 0)=c:=by
  simp only[Lit.int.injEq,DataW.lit.injEq,true_and]at e3
  exact e3
 rw[e4]
theorem rA.len {w:World} {b n:Nat} {l:List Int} (h:rA w b n l):(Builtin.len_ #[171] 3 #[.map (some b)]).run Try.prog w=.ok (.int .i64 (l.length:Nat)) w:=by
 obtain⟨D,h1,h2,h3⟩:=h
 have h0:=h1.len uE 3
 rw[h2]at h0
 exact h0
theorem iI {w:World} {ops:Array Oper} {rest:List Oper} {o:Oper} {a:Act} {Q:Exit->Act->World->Prop} (hg:o.guard=none) (m x v:Operand) (hop:o.op=Op.mapUpdate 171 m x v)
  (b n:Nat) (l:List Int) (z:Int) (hm:a.eval m=.map (some b)) (hx:a.eval x=.int .i64 z) (hv:a.eval v=.int .i64 (l.length:Nat)) (h:rA w b n l) (hn:n < maxLen) (hz:Mid z) (hnew:z ∉ l) (hll:l.length < 4611686018427387904)
  (hK:∀ w',rA w' b (n+1) (l ++ [z])->w.grownBy w' (some b)->wpList Try.prog ops Q rest (a.put o.dst undef) w') :
  wpList Try.prog ops Q (o :: rest) a w:=by
 obtain⟨D,h1,h2,h3⟩:=h
 obtain⟨w',h0,h4,h7⟩:=h1.update fQ uE hn (bG hz) (plainElem_int uV (dO (x:=((l.length:Nat):Int)) ⟨by omega,by omega⟩))
 have h6:WideAt.IsKeyLit (.int .i64 z):=by simp[WideAt.IsKeyLit]
 refine wpList_plain hg fun K' hK'=>?_
 unfold Oper.wp
 simp[execOp,hop,hm,hx,hv,h0,Result.andThen]
 refine hK' _ _ (hK w' ⟨_,h4,?_,fun y hy=>?_⟩ h7)
 ·rw[size_put (h1.tidy fQ),(h3 z hz).1,decide_eq_false hnew,h2];simp
 ·by_cases e:y=z
  ·subst e
   refine⟨by rw[has_put_same h1.isMap h6];simp,?_⟩
   rw[atKey_put_same h1.isMap h6,if_pos (by simp),List.idxOf_append,if_neg hnew]
   simp
  ·have h5:(Lit.int .i64 y)≠Lit.int .i64 z:=by intro h;injection h with _ h;exact e h
   obtain⟨e1,e2⟩:=h3 y hy
   refine⟨by rw[has_put_other h5,e1];simp[e],?_⟩
   rw[atKey_put_other h5,e2]
   by_cases hyl:y∈l
   ·rw[if_pos hyl,if_pos (by simp[hyl]),List.idxOf_append,if_pos hyl]
   ·rw[if_neg hyl,if_neg (by simp[hyl,e])]
def rH (l:List Nat) (k:Nat):List Nat:=l.take k ++ List.replicate (l.length - k) 0
theorem fillTo_zero (l:List Nat):rH l 0=List.replicate l.length 0:=by simp[rH]
theorem fillTo_end (l:List Nat):rH l l.length=l:=by simp[rH]
theorem fillTo_length {l:List Nat} {k:Nat} (h:k<=l.length):(rH l k).length=l.length:=by simp[rH];omega
theorem fillTo_set {l:List Nat} {k:Nat} (h:k < l.length):(rH l k).set k (l.getD k 0)=rH l (k+1):=by
 have hl:(l.take k).length=k:=by simp;omega
 unfold rH
 rw[List.set_append_right _ _ (by omega),hl,Nat.sub_self,zW (d:=0) h,show l.length - k=(l.length - (k+1))+1 by omega,List.replicate_succ,List.set_cons_zero,List.append_assoc]
 rfl
def NumOk (w:World) (p:List Nat) (e:Ending) (w':World):Prop :=
 ∃ g,e=.returned (.slice (some ⟨g,0,none⟩) p.length p.length)/\w.heap.size<=g/\Arr w' g 3 (nats p)/\w.grownBy w' none
end Go.Proofs.Ytjfdomfendbhfaa
namespace Go.Proofs.Ytjfdomfendbhfaa
open Go.RowKit Go.Maps
theorem lG:Try.prog.underlying 129=some (.map 9 3):=by kernel_rfl
theorem kN:Try.prog.underlying 9=some .string:=by kernel_rfl
theorem hO:Keyed Try.prog 9:=string_keyed kN
end Go.Proofs.Ytjfdomfendbhfaa
namespace Go.Proofs.Ytjfdomfendbhfaa
open Go.RowKit Go.Maps
structure KeyK {α:Type} (mt kt:TypeId) (V:α->Prop) (kv:α->Value):Prop where
 key:Keyed Try.prog kt
 und:Try.prog.underlying mt=some (.map kt 3)
 of:∀ a,V a->(keyOf Try.prog kt (kv a)).isSome=true
 inj:∀ a b,V a->V b->kv a=kv b->a=b
section
variable {α:Type} {mt kt:TypeId} {V:α->Prop} {kv:α->Value}
def MapK (kt:TypeId) (V:α->Prop) (kv:α->Value) (w:World) (b n c:Nat) (f:α->Option Nat):Prop :=
 ∃ D:DataW Unit,w.ownsMap Try.prog kt (plainElem Try.prog 3) b n D/\size D=c /\
  ∀ a l,V a->keyOf Try.prog kt (kv a)=some l->has D l=(f a).isSome/\D.atKey l (.lit (.int .i64 0))=.lit (.int .i64 (((f a).getD 0:Nat):Int))
theorem MapK.made (kt:TypeId) (V:α->Prop) (kv:α->Value) (w:World):MapK kt V kv (w.alloc (.map #[] 0)) w.heap.size 0 0 (fun _=>none):=by
 refine⟨.map [],World.ownsMap_made _ _ _ _,rfl,fun x _ _ _=>⟨by simp[has_eq],?_⟩⟩
 rw[WideAt.atKey_none _ (by simp)]
 simp
variable {w w':World} {b n c:Nat} {f:α->Option Nat}
theorem MapK.kept {row:Option Nat} (h:MapK kt V kv w b n c f) (hg:w.grownBy w' row) (hne:row≠some b):MapK kt V kv w' b n c f:=by
 obtain⟨D,h1,h2,h3⟩:=h
 exact⟨D,h1.kept hg (fun e=>hne e.symm),h2,h3⟩
theorem MapK.mono {n':Nat} (h:MapK kt V kv w b n c f) (hn:n<=n'):MapK kt V kv w b n' c f:=by
 obtain⟨D,h1,h2,h3⟩:=h
 exact⟨D,h1.mono hn,h2,h3⟩
theorem MapK.lt (h:MapK kt V kv w b n c f):b < w.heap.size:=by
 obtain⟨D,h1,_⟩:=h
 exact h1.lt
theorem MapK.obj (h:MapK kt V kv w b n c f):∃ es clock,w.heap[b]?=some (.map es clock):=by
 obtain⟨D,⟨es,clock,hb,_⟩,_⟩:=h
 exact⟨es,clock,hb⟩
theorem MapK.lookup (h:MapK kt V kv w b n c f) (K:KeyK mt kt V kv) {x:α} (hx:V x):(Instr.lookup mt (.map (some b)) (kv x) true).run Try.prog w=.ok (.tuple #[.int .i64 (((f x).getD 0:Nat):Int),.bool (f x).isSome]) w:=by
 obtain⟨D,h1,h2,h3⟩:=h
 obtain⟨kl,h4⟩:=Option.isSome_iff_exists.1 (K.of x hx)
 obtain⟨v,ps,h0,hv⟩:=h1.look_ok K.key K.und (gK w) (plainElem_int uV (by decide)) h4
 obtain⟨c,rfl,hc,_⟩:=plainElem_int_inv uV hv
 obtain⟨e1,e2⟩:=h3 x kl hx h4
 have e3:=congrArg Prod.fst hc
 simp only[e2]at e3
 rw[h0,e1]
 have e4:(((f x).getD 0:Nat):Int)=c:=by
  simp only[Lit.int.injEq,DataW.lit.injEq,true_and]at e3
  exact e3
 rw[e4]
theorem MapK.len (h:MapK kt V kv w b n c f) (K:KeyK mt kt V kv):(Builtin.len_ #[mt] 3 #[.map (some b)]).run Try.prog w=.ok (.int .i64 (c:Nat)) w:=by
 obtain⟨D,h1,h2,h3⟩:=h
 have h0:=h1.len K.und 3
 rw[h2]at h0
 exact h0
theorem kO [DecidableEq α] {ops:Array Oper} {rest:List Oper} {o:Oper} {a:Act} {Q:Exit->Act->World->Prop} (K:KeyK mt kt V kv) (hg:o.guard=none) (m x v:Operand) (hop:o.op=Op.mapUpdate mt m x v)
  (b n c:Nat) (f:α->Option Nat) (z:α) (y:Nat) (hm:a.eval m=.map (some b)) (hx:a.eval x=kv z) (hv:a.eval v=.int .i64 (y:Int)) (h:MapK kt V kv w b n c f) (hn:n < maxLen) (hz:V z) (hy:y < 4611686018427387904)
  (hK:∀ w',MapK kt V kv w' b (n+1) (if (f z).isSome then c else c+1) (fun q=>if q=z then some y else f q)->w.grownBy w' (some b)->wpList Try.prog ops Q rest (a.put o.dst undef) w') :
  wpList Try.prog ops Q (o :: rest) a w:=by
 obtain⟨D,h1,h2,h3⟩:=h
 obtain⟨kl,h0⟩:=Option.isSome_iff_exists.1 (K.of z hz)
 obtain⟨w',h4,h5,h7⟩:=h1.update K.key K.und hn h0 (plainElem_int uV (dO (x:=(y:Int)) ⟨by omega,by omega⟩))
 refine wpList_plain hg fun K' hK'=>?_
 unfold Oper.wp
 simp[execOp,hop,hm,hx,hv,h4,Result.andThen]
 refine hK' _ _ (hK w' ⟨_,h5,?_,fun q ql hq hql=>?_⟩ h7)
 ·rw[size_put (h1.tidy K.key),(h3 z kl hz h0).1,h2]
 ·by_cases e:q=z
  ·subst e
   rw[h0]at hql
   cases hql
   refine⟨by rw[has_put_same h1.isMap (K.key.key h0)];simp,?_⟩
   simp only[if_pos]
   rw[atKey_put_same h1.isMap (K.key.key h0)];rfl
  ·have h6:ql≠kl:=fun h=>e (K.inj q z hq hz (K.key.inj (hql.trans (congrArg some h)) h0))
   obtain⟨e1,e2⟩:=h3 q ql hq hql
   simp only[if_neg e]
   exact⟨by rw[has_put_other h6,e1],by rw[atKey_put_other h6,e2]⟩
end
end Go.Proofs.Ytjfdomfendbhfaa
namespace Go.Proofs.Ytjfdomfendbhfaa
open Go.RowKit
theorem run_byte1 {P:Program} {W:World} {g:Nat} {c:Int} (src e:TypeId) (hs:P.underlying src=some (.slice e)) (he:P.underlying e=some (.int .u8)) (dst:TypeId) (hd:P.underlying dst=some .string)
  (h:W.cell? ⟨g,0,none⟩=some (.int .u8 c)):(convert src dst (.slice (some ⟨g,0,none⟩) 1 1)).run P W=.ok (.string (strOfNums [c])) W:=by
 refine run_convert_bytes_arg W src e hs he g 0 1 1 [c] rfl (fun i hi=>?_) dst hd
 have:i=0:=by simp at hi;omega
 subst this
 simpa using h
end Go.Proofs.Ytjfdomfendbhfaa
