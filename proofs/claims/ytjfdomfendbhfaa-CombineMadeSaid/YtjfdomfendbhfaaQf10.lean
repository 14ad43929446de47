/- Part 10 of the proof. -/
import Derived.Test.YtjfdomfendbhfaaQf9
import Derived.Deep.DeepCutAuto
import Derived.BigQuiet
set_option linter.unusedVariables false
set_option linter.unusedSimpArgs false
set_option maxRecDepth 100000
set_option maxHeartbeats 16000000
namespace Go.Proofs.Ytjfdomfendbhfaa
open Go.RowKit Go.Maps
def kb (l:List Nat):List Nat:=l.flatMap fun q=>[q / 256,q % 256]
def kbR (l:List Nat):List Nat:=l.flatMap fun q=>[q % 256,q / 256]
theorem kb_length (l:List Nat):(kb l).length=2 * l.length:=by
 induction l with
 | nil=>rfl
 | cons x l ih=>simp only[kb,List.flatMap_cons,List.length_append,List.length_cons,List.length_nil]at ih ⊢;omega
theorem bX (l:List Nat):(kbR l).length=2 * l.length:=by
 induction l with
 | nil=>rfl
 | cons x l ih=>simp only[kbR,List.flatMap_cons,List.length_append,List.length_cons,List.length_nil]at ih ⊢;omega
theorem kb_snoc (l:List Nat)(x:Nat):kb (l++[x])=kb l++[x / 256,x % 256]:=by simp[kb]
theorem kbR_snoc (l:List Nat)(x:Nat):kbR (l++[x])=kbR l++[x % 256,x / 256]:=by simp[kbR]
theorem qIO:∀ {l m:List Nat},kb l=kb m->l=m
 | [],[],_=>rfl
 | [],y::m,h=>by simp[kb]at h
 | x::l,[],h=>by simp[kb]at h
 | x::l,y::m,h=>by
  simp only[kb,List.flatMap_cons,List.cons_append,List.nil_append,List.cons.injEq]at h
  obtain⟨h1,h2,h3⟩:=h
  rw[qIO (l:=l) (m:=m) h3,show x=y by omega]
theorem qGY:∀ {l m:List Nat},kbR l=kbR m->l=m
 | [],[],_=>rfl
 | [],y::m,h=>by simp[kbR]at h
 | x::l,[],h=>by simp[kbR]at h
 | x::l,y::m,h=>by
  simp only[kbR,List.flatMap_cons,List.cons_append,List.nil_append,List.cons.injEq]at h
  obtain⟨h1,h2,h3⟩:=h
  rw[qGY (l:=l) (m:=m) h3,show x=y by omega]
def qK (n:Nat)(l:List Nat):Prop:=l.length=n/\∀ x∈l,x<512
theorem qFB {n:Nat}{l:List Nat}(h:qK n l):∀ x∈kb l,x<256:=by
 intro x hx;simp only[kb,List.mem_flatMap,List.mem_cons,List.not_mem_nil,or_false]at hx;obtain⟨q,hq,hx⟩:=hx;have:=h.2 q hq;omega
theorem qCK {n:Nat}{l:List Nat}(h:qK n l):∀ x∈kbR l,x<256:=by
 intro x hx;simp only[kbR,List.mem_flatMap,List.mem_cons,List.not_mem_nil,or_false]at hx;obtain⟨q,hq,hx⟩:=hx;have:=h.2 q hq;omega
theorem nF (l:List Nat):(txtT l).size=l.length:=by
 have:(txtT l).size=(txtT l).data.toList.length:=by rw[Array.length_toList];rfl
 rw[this];unfold txtT;rw[strOfNums_data];simp[zb]
theorem key_kb {n:Nat}(h:n<=400):KeyK 129 9 (qK n) (fun l=>.string (txtT (kb l))) where
 key:=iC
 und:=nR
 of:=fun a ha=>by rw[Go.WideMaps.keyOf_string_mk kT (by rw[nF,kb_length,ha.1];unfold maxLen;omega)];rfl
 inj:=fun a b ha hb e=>qIO (qGA (qFB ha) (qFB hb) (by simpa using e))
theorem key_kbR {n:Nat}(h:n<=400):KeyK 129 9 (qK n) (fun l=>.string (txtT (kbR l))) where
 key:=iC
 und:=nR
 of:=fun a ha=>by rw[Go.WideMaps.keyOf_string_mk kT (by rw[nF,bX,ha.1];unfold maxLen;omega)];rfl
 inj:=fun a b ha hb e=>qGY (qGA (qCK ha) (qCK hb) (by simpa using e))
theorem u8s_append (l m:List Nat):u8s (l++m)=u8s l++u8s m:=by simp[u8s,zb]
theorem rowLit {w:World}{b e n:Nat}{cs:Array Value}{m:Nat×Nat}(h:w.heap[b]?=some (.cells cs e m))(hn:cs.size=n)(hm:n<=maxLen):Row (b+1) w (.slice (some ⟨b,0,none⟩) n n) cs.toList :=
 .inr ⟨b,0,n,by simp[hn],by omega,by simp[hn],hm,zI h,fun i hi=>by
  rw[Nat.zero_add,cell_of_row w b i _ _ _ h]
  have:i<cs.size:=by simpa using hi
  simp[this]⟩
theorem qFS (B:Nat)(w:World)(v:Value)(l:List Nat)(n:Nat)(hB:B<=w.heap.size)(h:Row B w v (nats l))(hs:qK n l)(hn:n<=400):
  Calls Try.prog 84 #[v] w fun e w'=>e=.returned (.string (txtT (kb l)))/\w.grownBy w' none:=by
 obtain⟨a,c,rfl⟩:=h.shape;have H7:=h.len_le;rw[zT,hs.1]at H7 ⊢;have H:=Kh h;have HS:=Kh hs;clear h hs;go_enter Try.func84,Try.ntmps84;go_wp2_with (first|(at_make;refine make0 rfl _ _ _ rfl qAI .i64 .i64 _ (2 * n) rfl rfl ?m1 ?m2 ?m3 ?_)|fail)
 case m1=>omega
 case m2=>omega
 case m3=>unfold maxLen;omega
 intro w1 h1 H0;have H1:=Kh h1;have H3:=Kh H0;clear h1 H0;go_wp2
 go_loopg [3,5,12] n (fun gh v3 a5 i wr=>∃ (k:Nat) (sa:Option Addr) (sc:Nat),gh+k=n/\i=.int .i64 k/\v3=.slice sa (2 * k) sc/\wr.ownsRow w.heap.size 5 1 (.slice sa (2 * k) sc) (2 * k) (u8s (kb (l.take k)))/\w.grownBy wr none)
 case atStart=>exact⟨0,_,_,rfl,rfl,rfl,H1.out,H3.out⟩
 case round =>
  clear H1 H3;obtain⟨k,sa,sc,hg,rfl,rfl,h2,h3⟩:=hrel;have HG:=Kh hg;have HO:=Kh h2;have H2:=Kh h3;clear hg h2;by_cases hk:k<n
  ·have H5:(k:Int)<n:=by omega
   obtain⟨kb_,ko,kc,e,_,h8,h7,h5⟩:=(H.out.kept h3 (by simp)).some_ (by rw[zT,HS.out.1];omega);rw[zT,HS.out.1]at e h8;simp only[Value.slice.injEq]at e;obtain⟨rfl,_,rfl⟩:=e;have a7:c<=9223372036854775807:=by unfold maxLen at h7;omega
   have c1:=h5.nat k (by rw[HS.out.1];exact hk)
   have h4:Hid (u8s (kb (l.take (k+1)))=u8s (kb (l.take k))++[.int .u8 ((l.getD k 0 / 256:Nat):Int),.int .u8 ((l.getD k 0 % 256:Nat):Int)]):=Kh (by
    rw[zR (d:=0) (by rw[HS.out.1];exact hk),kb_snoc,u8s_append];rfl)
   have H4:l.getD k 0<512:=HS.out.2 _ (by rw[zG (by rw[HS.out.1];exact hk)];exact List.getElem_mem _);obtain⟨x,hx⟩:∃ x,x=l.getD k 0:=⟨_,rfl⟩;rw[<- hx]at c1 h4 H4;obtain⟨y,hy⟩:∃ y,y=x / 256:=⟨_,rfl⟩;obtain⟨z,hz⟩:∃ z,z=x % 256:=⟨_,rfl⟩;rw[<- hy,<- hz]at h4;have e1:(x:Int) / 2 ^ 8=(y:Int):=by rw[hy];omega
   have e2:(x:Int) / 256=(y:Int):=by rw[hy];omega
   have e3:IntKind.u8.wrap (y:Int)=y:=IntWalk.u8_in _ (by omega)
   have e4:IntKind.u8.wrap (x:Int)=z:=by
    have:IntKind.u8.wrap (x:Int)=(x:Int) % 256:=by simp[IntKind.wrap,IntKind.bits,IntKind.signed]
    rw[this,hz];omega
   have a6:=h3.size;have H8:Hid (∀ W:World,wr.grownBy W none->W.ownsRow w.heap.size 5 1 (.slice sa (2 * k) sc) (2 * k) (u8s (kb (l.take k)))):=Kh (fun W hW=>zQ HO.out hW);clear h5 h8 h7 h3 hx hy hz;go_wp2_with (first|(at_builtin;refine appR rfl _ _ _ rfl qAI w.heap.size (.slice sa (2 * k) sc) (2 * k) _ rfl (H8.out _ (Ga wr _ none)) (.slice (some ⟨wr.heap.size,0,none⟩) 2 2) [.int .u8 (y:Int),.int .u8 (z:Int)] rfl ⟨wr.heap.size+1,?r0⟩ ?r1 (2 * (k+1)) ?a1 ?a2 ?a3 ?a4 ?_)|fail)
   case r0=>exact rowLit (heap_alloc_new wr _) rfl (by unfold maxLen;omega)
   case r1=>intro u hu;simp at hu;rcases hu with rfl|rfl<;>rfl
   case a1=>simp;omega
   case a2=>unfold maxLen;omega
   case a3=>omega
   case a4=>rw[zO];omega
   intro sa' sc' w8 h0 h9;have H9:Hid (w8.ownsRow w.heap.size 5 1 (.slice sa' (2 * (k+1)) sc') (2 * (k+1)) (u8s (kb (l.take (k+1))))):=Kh (by rw[h4.out];exact h0);have a0:Hid (w.grownBy w8 none):=Kh (zB (zB H2.out (Ga wr _ none) (by simp)) h9 (fun x e=>(HO.out.lt x e).1));clear h0 h9;go_wp2;go_roundg (n - (k+1))
   case measure=>have:=HG.out;omega
   case rel=>exact⟨k+1,sa',sc',by have:=HG.out;omega,by go_num,rfl,H9.out,a0.out⟩
  ·have h6:k=n:=by have:=HG.out;omega
   have H5:¬ (k:Int)<n:=(by omega);have HE:Hid (l.take k=l):=Kh (by rw[h6,<- HS.out.1];exact List.take_length);rw[HE.out]at HO;have H6:=rR 106 5 Try.underlying106 Try.underlying5 9 Try.underlying9 HO.out;obtain⟨X,hX⟩:∃ X,X=txtT (kb l):=⟨_,rfl⟩;rw[show strOfNums (zb (kb l))=X from hX.symm]at H6;have HX:=Kh hX;clear h6 h3 hX;go_wp2;go_ret;exact⟨by rw[HX.out];rfl,H2.out⟩
theorem txtT_append (l m:List Nat):txtT (l++m)=txtT l++txtT m:=by
 unfold txtT;rw[show zb (l++m)=zb l++zb m by simp[zb]];unfold strOfNums;apply ByteArray.ext;simp
theorem cY (B:Nat)(w:World)(v:Value)(l:List Nat)(n:Nat)(hB:B<=w.heap.size)(h:Row B w v (nats l))(hs:qK n l)(hn:n<=400):
  Calls Try.prog 80 #[v] w fun e w'=>e=.returned (.string (txtT (kbR l)))/\w.grownBy w' none:=by
 obtain⟨a,c,rfl⟩:=h.shape;have H1:=h.len_le;rw[zT,hs.1]at H1 ⊢;have H:=Kh h;have HS:=Kh hs;clear h hs;go_enter Try.func80,Try.ntmps80;go_wp2
 go_loopg [3,5,8] n (fun gh v3 a5 i wr=>∃ (k:Nat),gh+k=n/\i=.int .i64 k/\v3=.string (txtT (kbR (l.take k)))/\w.grownBy wr none)
 case atStart=>exact⟨0,rfl,rfl,rfl,zM _ _⟩
 case round =>
  obtain⟨k,hg,rfl,rfl,h1⟩:=hrel;have HG:=Kh hg;have h6:=Kh h1;clear hg;by_cases hk:k<n
  ·have h9:(k:Int)<n:=by omega
   obtain⟨kb_,ko,kc,e,_,h5,h4,h2⟩:=(H.out.kept h1 (by simp)).some_ (by rw[zT,HS.out.1];omega);rw[zT,HS.out.1]at e h5;simp only[Value.slice.injEq]at e;obtain⟨rfl,_,rfl⟩:=e;have H5:c<=9223372036854775807:=by unfold maxLen at h4;omega
   have c1:=h2.nat k (by rw[HS.out.1];exact hk);have h7:l.getD k 0<512:=HS.out.2 _ (by rw[zG (by rw[HS.out.1];exact hk)];exact List.getElem_mem _)
   have h0:Hid (txtT (kbR (l.take (k+1)))=txtT (kbR (l.take k))++txtT [l.getD k 0 % 256,l.getD k 0 / 256]):=Kh (by
    rw[zR (d:=0) (by rw[HS.out.1];exact hk),kbR_snoc,txtT_append])
   have H3:(txtT (kbR (l.take k))).size=2 * k:=by rw[nF,bX,List.length_take,HS.out.1];omega
   obtain⟨x,hx⟩:∃ x,x=l.getD k 0:=⟨_,rfl⟩;rw[<- hx]at c1 h0 h7;obtain⟨y,hy⟩:∃ y,y=x / 256:=⟨_,rfl⟩;obtain⟨z,hz⟩:∃ z,z=x % 256:=⟨_,rfl⟩;rw[<- hy,<- hz]at h0;have H2:(txtT [z,y]).size=2:=by rw[nF];rfl
   obtain⟨S,hS⟩:∃ S,S=txtT (kbR (l.take k)):=⟨_,rfl⟩;obtain⟨T,hT⟩:∃ T,T=txtT [z,y]:=⟨_,rfl⟩;rw[<- hS]at H3 h0 ⊢;rw[<- hT]at H2 h0;have e1:(x:Int) / 2 ^ 8=(y:Int):=by rw[hy];omega
   have e2:(x:Int) / 256=(y:Int):=by rw[hy];omega
   have e3:IntKind.u8.wrap (y:Int)=y:=IntWalk.u8_in _ (by omega)
   have e4:IntKind.u8.wrap (x:Int)=z:=by
    have:IntKind.u8.wrap (x:Int)=(x:Int) % 256:=by simp[IntKind.wrap,IntKind.bits,IntKind.signed]
    rw[this,hz];omega
   have H4:Hid (Arr (wr.alloc (.cells #[.int .u8 (z:Int),.int .u8 (y:Int)] 5)) wr.heap.size 5 (([z,y].map fun(x:Nat)=>(x:Int)).map (Value.int .u8))):=Kh (Arr.new wr 5 #[.int .u8 (z:Int),.int .u8 (y:Int)]);have H0:=oA 106 5 Try.underlying106 Try.underlying5 9 Try.underlying9 2 2 rfl H4.out;rw[show strOfNums ([z,y].map fun(x:Nat)=>(x:Int))=T from hT.symm]at H0;have h8:¬ (9223372036854775807<S.size+T.size):=(by omega);clear h2 h5 h4 h1 hx hy hz hS hT;go_wp2;go_roundg (n - (k+1))
   case measure=>have:=HG.out;omega
   case rel=>exact⟨k+1,by have:=HG.out;omega,by go_num,by rw[h0.out],zB h6.out (Ga wr _ none) (by simp)⟩
  ·have h3:k=n:=by have:=HG.out;omega
   have h9:¬ (k:Int)<n:=(by omega);have HE:Hid (l.take k=l):=Kh (by rw[h3,<- HS.out.1];exact List.take_length);clear h3 h1;go_wp2;go_ret;exact⟨by rw[HE.out];rfl,h6.out⟩
end Go.Proofs.Ytjfdomfendbhfaa
namespace Go.Proofs.Ytjfdomfendbhfaa
open Go.RowKit
theorem qDJ {P:Program}{w:World}{o:Oper}{a:Act}{K:Act->World->Prop}{Q:Exit->Act->World->Prop}(s x:Operand)(t:TypeId)(ho:o.op=.call { callee:=.builtin .append,args:=#[s,x],argTypes:=#[t,t] }){e:TypeId}{sz:Nat}{z:Value}{bytes:Nat}(E:ElemN P t e sz z bytes)(base:Nat)(v:Value)(n:Nat)(xs:List Value)(hs:a.eval s=v)(hown:w.ownsRow base e sz v n xs)(us:List Value)(g:Nat)(hx:a.eval x=.slice (some ⟨g,0,none⟩) 1 1)(m:Nat×Nat)(hus:us.length=sz)(hg:w.heap[g]?=some (.cells us.toArray e m))(h1:∀ u∈us,u.oneCell'=true)(h63:n+1<=maxLen)(hbytes:(n+1) * bytes<=140737488355328)(hbase:base<=w.heap.size)(h:∀ sa sc w',w'.ownsRow base e sz (.slice sa (n+1) sc) (n+1) (xs++us)->w.grownBy w' v.ownBlock->qP w w' v (.slice sa (n+1) sc)->K (a.put o.dst (.slice sa (n+1) sc)) w'):o.wp P a w K Q:=by
 have h5:∀ j,(⟨g,0,none⟩:Addr).add j=⟨g,j,none⟩:=fun j=>by unfold Addr.add;split<;>simp_all
 have h0:qHS w sz (.slice (some ⟨g,0,none⟩) 1 1) 1 us:=.inr ⟨g,0,1,rfl,by omega,by unfold maxLen;omega,fun i u hi=>by
  obtain⟨hl,e⟩:=List.getElem?_eq_some_iff.1 hi;have:=zJ hg i (by simpa using hl)
  rw[Nat.zero_add,this];simpa using e⟩
 obtain⟨v',w',hr,h2,h3,h4⟩:=run_append_movedR (P:=P) base t o.type E v n xs hown _ 1 us h0 h1 h63 hbytes hbase;obtain⟨sa,sc,rfl⟩:=qV h2;unfold Oper.wp execOp;simp only[ho,resolve,invoke,builtin,Sem.run_bind,Sem.run_pure,Result.andThen_ok,List.map_toArray,List.map_cons,List.map_nil,hs,hx,hr];exact h sa sc w' h2 h3 h4
theorem tQ {P:Program}{ops:Array Oper}{w:World}{o:Oper}{a:Act}{K:Act->World->Prop}{Q:Exit->Act->World->Prop}{R:Prop}(hgd:o.guard=none)(s x:Operand)(t:TypeId)(ho:o.op=.call { callee:=.builtin .append,args:=#[s,x],argTypes:=#[t,t] }){e:TypeId}{sz:Nat}{z:Value}{bytes:Nat}(E:ElemN P t e sz z bytes)(base:Nat)(v:Value)(n:Nat)(xs:List Value)(hs:a.eval s=v)(hown:w.ownsRow base e sz v n xs)(us:List Value)(g:Nat)(hx:a.eval x=.slice (some ⟨g,0,none⟩) 1 1)(m:Nat×Nat)(hus:us.length=sz)(hg:w.heap[g]?=some (.cells us.toArray e m))(h1:∀ u∈us,u.oneCell'=true)(h63:n+1<=maxLen)(hbytes:(n+1) * bytes<=140737488355328)(hbase:base<=w.heap.size)(h:∀ sa sc w',w'.ownsRow base e sz (.slice sa (n+1) sc) (n+1) (xs++us)->w.grownBy w' v.ownBlock->qP w w' v (.slice sa (n+1) sc)->K (a.put o.dst (.slice sa (n+1) sc)) w'):if Region.wanted o (yielded ops a.tmps)=true then Oper.wp P o a w K Q else R:=by
 have hw:Region.wanted o (yielded ops a.tmps)=true:=by simp[Region.wanted,hgd]
 rw[if_pos hw];exact qDJ s x t ho E base v n xs hs hown us g hx m hus hg h1 h63 hbytes hbase h
theorem dT {P:Program}{w:World}{ops:Array Oper}{rest:List Oper}{o:Oper}{a:Act}{Q:Exit->Act->World->Prop}(hgd:o.guard=none)(s x:Operand)(t:TypeId)(ho:o.op=.call { callee:=.builtin .append,args:=#[s,x],argTypes:=#[t,t] }){e:TypeId}{sz:Nat}{z:Value}{bytes:Nat}(E:ElemN P t e sz z bytes)(base:Nat)(v:Value)(n:Nat)(xs:List Value)(hs:a.eval s=v)(hown:w.ownsRow base e sz v n xs)(us:List Value)(hx:a.eval x=.slice (some ⟨w.heap.size,0,none⟩) 1 1)(hus:us.length=sz)(h1:∀ u∈us,u.oneCell'=true)(h63:n+1<=maxLen)(hbytes:(n+1) * bytes<=140737488355328)(hbase:base<=w.heap.size)(h:∀ sa sc w',w'.ownsRow base e sz (.slice sa (n+1) sc) (n+1) (xs++us)->w.grownBy w' v.ownBlock->wpList P ops Q rest (a.put o.dst (.slice sa (n+1) sc)) w'):
  wpList P ops Q (o::rest) a (w.alloc (.cells us.toArray e)) :=
 wpList_plain hgd fun _ hK=>qDJ s x t ho E base v n xs hs (hown.alloc _) us w.heap.size hx (0,0) hus (heap_alloc_new w _) h1 h63 hbytes (by simp;omega) fun sa sc w' h2 h3 _=>hK _ _ (h sa sc w' h2 (zD (Ga w _ _) h3))
theorem uR {P:Program}{w:World}{ops:Array Oper}{rest:List Oper}{o:Oper}{a:Act}{Q:Exit->Act->World->Prop}(hgd:o.guard=none)(s x:Operand)(t:TypeId)(ho:o.op=.call { callee:=.builtin .append,args:=#[s,x],argTypes:=#[t,t] }){e:TypeId}{sz:Nat}{z:Value}{bytes:Nat}(E:ElemN P t e sz z bytes)(base:Nat)(v:Value)(n:Nat)(xs:List Value)(hs:a.eval s=v)(hown:w.ownsRow base e sz v n xs)(us:List Value)(hx:a.eval x=.slice (some ⟨w.heap.size,0,none⟩) 1 1)(hus:us.length=sz)(h1:∀ u∈us,u.oneCell'=true)(h63:n+1<=maxLen)(hbytes:(n+1) * bytes<=140737488355328)(hbase:base<=w.heap.size)(h:∀ sa sc w',w'.ownsRow base e sz (.slice sa (n+1) sc) (n+1) (xs++us)->w.grownBy w' v.ownBlock->qP w w' v (.slice sa (n+1) sc)->wpList P ops Q rest (a.put o.dst (.slice sa (n+1) sc)) w'):
  wpList P ops Q (o::rest) a (w.alloc (.cells us.toArray e)) :=
 wpList_plain hgd fun _ hK=>qDJ s x t ho E base v n xs hs (hown.alloc _) us w.heap.size hx (0,0) hus (heap_alloc_new w _) h1 h63 hbytes (by simp;omega) fun sa sc w' h2 h3 h4=>hK _ _ (h sa sc w' h2 (zD (Ga w _ _) h3) (by
  rcases h4 with h4|⟨h4,h5⟩
  ·exact .inl h4
  ·exact .inr ⟨zD (Ga w _ none) h4,fun k hk=>by have:=h5 k hk;rw[zO]at this;omega⟩))
theorem iL {w:World}{p e:Nat}{x0 x1 x2 x3 x4 x5:Value}(h:w.heap[p]?=some (.cells #[x0,x1,x2,x3,x4,x5] e (0,0))):
  w.cell? ⟨p,0,none⟩=some x0/\w.cell? ⟨p,1,none⟩=some x1/\w.cell? ⟨p,2,none⟩=some x2/\w.cell? ⟨p,3,none⟩=some x3/\w.cell? ⟨p,4,none⟩=some x4/\w.cell? ⟨p,5,none⟩=some x5:=by
 have c0:=zJ h 0 (by simp);have c1:=zJ h 1 (by simp);have c2:=zJ h 2 (by simp);have c3:=zJ h 3 (by simp);have c4:=zJ h 4 (by simp);have c5:=zJ h 5 (by simp);exact⟨by simpa using c0,by simpa using c1,by simpa using c2,by simpa using c3,by simpa using c4,by simpa using c5⟩
structure BoxS (B:Nat)(X:Nat->Prop)(o ty:Nat)(w0 wk:World)(rs:List RowS)(c:Array Value)(w:World):Prop where
 mem:EMem X w rs
 typ:∀ r∈rs,r.base=B/\r.e≠ty
 box:w.heap[o]?=some (.cells c ty (0,0))
 off:¬ X o
 size:w0.heap.size<=B
 old:w0.heap.size<=o
 base:B<=wk.heap.size
 grown:w0.grownBy w none
 kept:vR X wk w
 wk:wk.heap.size<=w.heap.size
section
variable {B:Nat} {X:Nat->Prop} {o ty:Nat} {w0 wk w:World} {rs:List RowS} {c:Array Value}
theorem BoxS.grow (h:BoxS B X o ty w0 wk rs c w){w':World}(hg:w.grownBy w' none):BoxS B X o ty w0 wk rs c w' :=
 ⟨h.mem.grow hg,h.typ,zA h.box hg (by simp),h.off,h.size,h.old,h.base,zB h.grown hg (by simp),h.kept.trans (h.mem.keep hg),Nat.le_trans h.wk hg.size⟩
theorem BoxS.set (h:BoxS B X o ty w0 wk rs c w)(f:Nat)(u:Value):BoxS B X o ty w0 wk rs (c.setIfInBounds f u) (w.setCell ⟨o,f,none⟩ u):=by
 have hs:=heap_setCell_same w o f _ _ u h.box;have hg:=zC w ⟨o,f,none⟩ u;exact⟨h.mem.far hg (fun r hr=>zS (h.mem.own r hr) h.box (h.typ r hr).2),h.typ,hs,h.off,h.size,h.old,h.base,zB h.grown hg (fun j e=>by have e:o=j:=Oj e;have:=h.old;omega),h.kept.trans (vR.of_grown h.mem.lt hg (fun j e hx=>by have e:o=j:=Oj e;subst e;exact h.off hx)),Nat.le_trans h.wk hg.size⟩
theorem BoxS.own (h:BoxS B X o ty w0 wk rs c w){r:RowS}(hr:r∈rs):w.ownsRow r.base r.e r.sz r.v r.n r.xs:=h.mem.own r hr
theorem BoxS.nil (h : BoxS B X o ty w0 wk rs c w){e sz : Nat}(he : e ≠ ty): BoxS B X o ty w0 wk (rs ++ [⟨B, e, .slice none 0 0, 0, [], sz⟩]) c w :=
 ⟨h.mem.add (zM _ none) (World.ownsRow_nil _ _ _ _) (fun j e => by simp[Value.ownBlock]at e), fun r hr => by
  rcases List.mem_append.1 hr with hr | hr
  ·exact h.typ r hr
  ·rw[List.mem_singleton]at hr; subst hr; exact⟨rfl, he⟩, h.box, h.off, h.size, h.old, h.base, h.grown, h.kept, h.wk⟩
theorem BoxS.add (h : BoxS B X o ty w0 wk rs c w){w' : World}(hg : w.grownBy w' none){e sz n : Nat}{v : Value}{xs : List Value}(ho : w'.ownsRow w.heap.size e sz v n xs)(he : e ≠ ty): BoxS B X o ty w0 wk (rs ++ [⟨B, e, v, n, xs, sz⟩]) c w' :=
 ⟨h.mem.add hg (xN ho (Nat.le_trans h.base h.wk)) (fun k hk => (ho.lt k hk).1), fun r hr => by
  rcases List.mem_append.1 hr with hr | hr
  ·exact h.typ r hr
  ·rw[List.mem_singleton]at hr; subst hr; exact⟨rfl, he⟩, zA h.box hg (by simp), h.off, h.size, h.old, h.base, zB h.grown hg (by simp), h.kept.trans (h.mem.keep hg), Nat.le_trans h.wk hg.size⟩
theorem BoxS.push (h:BoxS B X o ty w0 wk rs c w):Many w (qBS rs) w rs [] []/\B<=w.heap.size/\∀ (wM:World) (j:Nat) (r:RowS) (v':Value) (n':Nat) (us:List Value),rs[j]?=some r->Many w (qBS rs) wM (rs.set j ⟨r.base,r.e,v',n',r.xs++us,r.sz⟩) [] []->BoxS B X o ty w0 wk (rs.set j ⟨r.base,r.e,v',n',r.xs++us,r.sz⟩) c wM:=by
 refine⟨h.mem.many _ (fun _ h=>h),Nat.le_trans h.base h.wk,fun wM j r v' n' us hr hMM=>?_⟩
 have hf:∀ k,qBS rs k->B<=k/\k≠o/\¬ X k:=fun k hk=>by
  obtain⟨r,hr,hk⟩:=hk;have h0:=h.mem.own r hr;refine⟨by have:=(h0.lt k hk).1;rw[(h.typ r hr).1]at this;exact this,fun e=>?_,h.mem.offX r hr k hk⟩;subst e;exact zS h0 h.box (h.typ r hr).2 hk
 refine⟨h.mem.after hMM (fun k hk=>(hf k hk).2.2),fun s hs=>?_,hMM.but.heap h.box (fun hj=>(hf o hj).2.1 rfl),h.off,h.size,h.old,h.base,hMM.but.grown h.grown (fun k hk=>.inr (Nat.le_trans h.size (hf k hk).1)),h.kept.trans (h.mem.keepMany hMM (fun k hk=>(hf k hk).2.2)),Nat.le_trans h.wk hMM.but.size⟩;rcases List.mem_or_eq_of_mem_set hs with hs|rfl
 ·exact h.typ s hs
 ·exact h.typ r (List.mem_of_getElem? hr)
theorem owns_setB {w:World}{b e n g cap i:Nat}{xs:List Value}(h:w.ownsRow b e 1 (.slice (some ⟨g,0,none⟩) n cap) n xs)(hi:i<n)(u:Value):(w.setCell ⟨g,i,none⟩ u).ownsRow b e 1 (.slice (some ⟨g,0,none⟩) n cap) n (xs.set i u):=by
 refine⟨by rw[List.length_set];exact h.1,?_⟩;rcases h.2 with ⟨hv,_⟩|⟨g',cap',cur,hv,hb,hg,hnc,hcm,hcs,htake⟩
 ·simp at hv
 ·simp only[Value.slice.injEq,Option.some.injEq,Addr.mk.injEq]at hv
  obtain⟨⟨rfl,_⟩,_,rfl⟩:=hv;have hs:=heap_setCell_same w g i _ _ u hg;refine .inr ⟨g,cap,_,rfl,hb,hs,hnc,hcm,by simpa using hcs,?_⟩;rw[<- htake];simp[List.take_set]
theorem BoxS.put (h:BoxS B X o ty w0 wk rs c w){j g n cap b e i:Nat}{xs:List Value}(hr:rs[j]?=some ⟨b,e,.slice (some ⟨g,0,none⟩) n cap,n,xs,1⟩)(hi:i<n)(u:Value):BoxS B X o ty w0 wk (rs.set j ⟨b,e,.slice (some ⟨g,0,none⟩) n cap,n,xs.set i u,1⟩) c (w.setCell ⟨g,i,none⟩ u):=by
 have h0:=List.mem_of_getElem? hr;have ho:=h.mem.own _ h0;have ht:=h.typ _ h0;simp only at ho ht;have hg:=zC w ⟨g,i,none⟩ u;have h7:g≠o:=fun e1=>by subst e1;exact zS ho h.box ht.2 rfl
 obtain⟨h4,h2⟩:=List.getElem?_eq_some_iff.1 hr;have h3:=List.pairwise_iff_getElem.1 h.mem.apart;refine⟨⟨fun r hr'=>?_,?_,fun r hr' k hk=>?_,fun k hk=>Nat.lt_of_lt_of_le (h.mem.lt k hk) hg.size⟩,fun r hr'=>?_,zA h.box hg (fun e1=>h7 (Oj e1)),h.off,h.size,h.old,h.base,zB h.grown hg (fun k e1=>?_),h.kept.trans (vR.of_grown h.mem.lt hg (fun k e1 hx=>?_)),Nat.le_trans h.wk hg.size⟩
 ·obtain⟨q,hq,rfl⟩:=List.getElem_of_mem hr'
  rw[List.getElem_set];have h1:q<rs.length:=by simpa using hq
  split
  ·exact owns_setB ho hi u
  ·rename_i hne
   refine(h.mem.own _ (List.getElem_mem h1)).kept hg (.inr (fun e1=>?_));rcases Nat.lt_or_gt_of_ne hne with hlt|hlt
   ·exact h3 j q h4 h1 hlt g (by rw[h2];rfl) e1
   ·exact h3 q j h1 h4 hlt g e1 (by rw[h2];rfl)
 ·rw[List.pairwise_iff_getElem]
  intro p q hp hq h5;have h6:p<rs.length:=by simpa using hp
  have h1:q<rs.length:=by simpa using hq
  have:=h3 p q h6 h1 h5;rw[List.getElem_set,List.getElem_set]
  split<;>split
  ·omega
  ·rename_i e1 e2;subst e1;rw[h2]at this;exact this
  ·rename_i e1 e2;subst e2;rw[h2]at this;exact this
  ·exact this
 ·rcases List.mem_or_eq_of_mem_set hr' with hr'|rfl
  ·exact h.mem.offX r hr' k hk
  ·exact h.mem.offX _ h0 k hk
 ·rcases List.mem_or_eq_of_mem_set hr' with hr'|rfl
  ·exact h.typ r hr'
  ·exact ht
 ·have e1:g=k:=Oj e1
  have:=(ho.lt g rfl).1;have:=h.size;omega
 ·have e1:g=k:=Oj e1
  subst e1;exact h.mem.offX _ h0 g rfl hx
end
end Go.Proofs.Ytjfdomfendbhfaa
namespace Go.Proofs.Ytjfdomfendbhfaa
open Go.RowKit Go.Maps
section
variable {B:Nat} {X:Nat->Prop} {o ty:Nat} {w0 wk w w':World} {rs:List RowS} {c:Array Value}
theorem BoxS.rebase (h:BoxS B X o ty w0 wk rs c w):BoxS B X o ty w0 w rs c w :=
 ⟨h.mem,h.typ,h.box,h.off,h.size,h.old,Nat.le_trans h.base h.wk,h.grown,vR.refl _ _,Nat.le_refl _⟩
theorem BoxS.fresh (h : BoxS B X o ty w0 wk rs c w)(hg : w.grownBy w' none){Y : Nat -> Prop}(hY : ∀ k, Y k -> w.heap.size <= k /\ k < w'.heap.size): BoxS B (fun k => X k \/ Y k) o ty w0 w' rs c w' :=
 ⟨h.mem.fresh hg hY, h.typ, zA h.box hg (by simp), fun e => by
  rcases e with e | e
  ·exact h.off e
  ·have := (hY o e).1
   have := zI h.box
   omega, h.size, h.old, Nat.le_trans (Nat.le_trans h.base h.wk) hg.size, zB h.grown hg (by simp), vR.refl _ _, Nat.le_refl _⟩
theorem BoxS.far (h:BoxS B X o ty w0 wk rs c w){mb:Nat}(hg:w.grownBy w' (some mb))(hr:∀ r∈rs,r.v.ownBlock≠some mb)(hx:¬ X mb)(ho:o≠mb)(hold:w0.heap.size<=mb):BoxS B X o ty w0 wk rs c w' :=
 ⟨h.mem.far hg hr,h.typ,zA h.box hg (fun e=>ho (Oj e).symm),h.off,h.size,h.old,h.base,zB h.grown hg (fun j e=>by have e:mb=j:=Oj e;omega),h.kept.trans (vR.of_grown h.mem.lt hg (fun j e hxx=>by have e:mb=j:=Oj e;subst e;exact hx hxx)),Nat.le_trans h.wk hg.size⟩
theorem BoxS.appAt (h:BoxS B X o ty w0 wk rs c w){j:Nat}{r:RowS}(hr:rs[j]?=some r){v':Value}{n':Nat}{us:List Value}(ho:w'.ownsRow r.base r.e r.sz v' n' (r.xs++us))(hg:w.grownBy w' r.v.ownBlock)(hm:qP w w' r.v v'):
  BoxS B X o ty w0 wk (rs.set j ⟨r.base,r.e,v',n',r.xs++us,r.sz⟩) c w':=by
 have h0:=List.mem_of_getElem? hr;have h1:=h.mem.own _ h0;have ht:=h.typ _ h0;have h2:∀ k,r.v.ownBlock=some k->B<=k/\k≠o/\¬ X k:=fun k hk=>⟨by have:=(h1.lt k hk).1;rw[ht.1]at this;exact this,fun e=>by subst e;exact zS h1 h.box ht.2 hk,h.mem.offX r h0 k hk⟩;refine⟨h.mem.appAt hr ho hg hm,fun s hs=>?_,zA h.box hg (fun e=>(h2 o e).2.1 rfl),h.off,h.size,h.old,h.base,zB h.grown hg (fun k e=>Nat.le_trans h.size (h2 k e).1),h.kept.trans (vR.of_grown h.mem.lt hg (fun k e=>(h2 k e).2.2)),Nat.le_trans h.wk hg.size⟩;rcases List.mem_or_eq_of_mem_set hs with hs|rfl
 ·exact h.typ s hs
 ·exact ht
theorem BoxS.stand (h : BoxS B X o ty w0 wk rs c w){mb : Nat}(hb : mb < w.heap.size)(hr : ∀ r ∈ rs, r.v.ownBlock ≠ some mb)(ho : o ≠ mb): BoxS B (fun q => X q \/ q = mb) o ty w0 w rs c w :=
  ⟨⟨h.mem.own, h.mem.apart, fun r hr' k hk hx => by
    rcases hx with hx | hx
    · exact h.mem.offX r hr' k hk hx
    · subst hx; exact hr r hr' hk, fun k hk => by
    rcases hk with hk | hk
    · exact h.mem.lt k hk
    · subst hk; exact hb⟩, h.typ, h.box, fun e => by
    rcases e with e | e
    · exact h.off e
    · exact ho e, h.size, h.old, Nat.le_trans h.base h.wk, h.grown, vR.refl _ _, Nat.le_refl _⟩
theorem BoxS.less {X':Nat->Prop}(h:BoxS B X' o ty w0 wk rs c w)(hX:∀ q,X q->X' q):BoxS B X o ty w0 wk rs c w :=
 ⟨⟨h.mem.own,h.mem.apart,fun r hr k hk hx=>h.mem.offX r hr k hk (hX k hx),fun k hk=>h.mem.lt k (hX k hk)⟩,h.typ,h.box,fun e=>h.off (hX o e),h.size,h.old,h.base,h.grown,fun k hk=>h.kept k (hX k hk),h.wk⟩
end
theorem MapK.of_block {α:Type}{kt:TypeId}{V:α->Prop}{kv:α->Value}{w w':World}{b n c:Nat}{f:α->Option Nat}(h:MapK kt V kv w b n c f)(hb:w'.heap[b]?=w.heap[b]?):MapK kt V kv w' b n c f:=by
 obtain⟨D,⟨es,clock,h1,h2⟩,h3⟩:=h;exact⟨D,⟨es,clock,hb.trans h1,h2⟩,h3⟩
theorem yX {w:World}{base e sz n b:Nat}{v:Value}{xs:List Value}{es:Array (Value×Value)}{clock:Nat}(h:w.ownsRow base e sz v n xs)(hb:∃ es clock,w.heap[b]?=some (.map es clock)):v.ownBlock≠some b:=by
 obtain⟨es,clock,hb⟩:=hb;rcases h.2 with ⟨h1,_⟩|⟨g,cap,cur,h1,_,hg,_⟩
 ·rw[h1];simp[Value.ownBlock]
 ·rw[h1]
  intro e;have e:g=b:=by simpa [Value.ownBlock] using e
  subst e;rw[hb]at hg;simp at hg
theorem RowX.of_new {X:Nat->Prop}{w:World}{g n c:Nat}{f:List Nat}(h:Arr w g 3 (nats f))(hn:f.length=n)(hc:n<=c)(hm:c<=maxLen)(hX:X g):RowX X 3 w (.slice (some ⟨g,0,none⟩) n c) (nats f):=by
 subst hn;have:=h.rowT' (cap:=c) (by rw[zT];exact hc) hm;rw[zT]at this;exact⟨this,fun k hk=>by simp[Value.ownBlock]at hk;subst hk;exact hX⟩
def numE (els:List (List Nat))(f:List Nat):Option Nat:=if f∈els then some (els.idxOf f) else none
theorem qBY {els:List (List Nat)}{f:List Nat}(h:f ∉ els):(fun q=>if q=f then some els.length else numE els q)=numE (els++[f]):=by
 funext q;unfold numE;by_cases e:q=f
 ·subst e
  rw[if_pos rfl,if_pos (by simp),List.idxOf_append,if_neg h];simp
 ·rw[if_neg e]
  by_cases hq:q∈els
  ·rw[if_pos hq,if_pos (by simp[hq]),List.idxOf_append,if_pos hq]
  ·rw[if_neg hq,if_neg (by simp[hq,e])]
theorem make1o {P:Program}{w:World}{ops:Array Oper}{rest:List Oper}{o:Oper}{a:Act}{Q:Exit->Act->World->Prop}(hgd:o.guard=none)(l c:Operand)(t:TypeId)(ho:o.op=.makeSlice t l c){e:TypeId}{z:Value}{bytes:Nat}(E:ElemOk P t e z bytes)(hz:z.cells=#[z])(kl kc:IntKind)(L C:Int)(n:Nat)(hl:a.eval l=.int kl L)(hc:a.eval c=.int kc C)(hL:L=(n:Int))(hC:C=(n:Int))(hb:bytes * n<=281474976710656)(h63:n<=maxLen)(h:∀ w',w'.ownsRow w.heap.size e 1 (.slice (some ⟨w.heap.size,0,none⟩) n n) n (List.replicate n z)->w.grownBy w' none->w.heap.size<w'.heap.size->wpList P ops Q rest (a.put o.dst (.slice (some ⟨w.heap.size,0,none⟩) n n)) w'):wpList P ops Q (o::rest) a w:=by
 obtain⟨i,hi,h1,h2,h3⟩:=info_parts E.hi;refine wpList_make_full w hgd l c t ho w.heap.size e i z 1 E.ht hi h1 h2 kl kc L C n hl hc hL hC (by rw[h3];exact hb) h63 (Nat.le_refl _) ?_;intro w' h0 hg;have ha:=Arr.of_owns h0;rw[pU hz]at h0;exact h w' h0 hg ha.lt
end Go.Proofs.Ytjfdomfendbhfaa
namespace Go.Proofs.Ytjfdomfendbhfaa
open Go.RowKit Go.Maps
section
variable {X:Nat->Prop} {B o ty:Nat} {w0 wk w w':World} {rs:List RowS} {c:Array Value}
theorem BoxS.retire {r : RowS}(h : BoxS B X o ty w0 wk (rs ++ [r]) c w): BoxS B (fun k => X k \/ r.v.ownBlock = some k) o ty w0 w rs c w :=
 ⟨h.mem.retire, fun s hs => h.typ s (List.mem_append_left _ hs), h.box, fun e => by
  rcases e with e | e
  ·exact h.off e
  ·exact absurd e (zS (h.mem.own r (by simp)) h.box (h.typ r (by simp)).2), h.size, h.old, Nat.le_trans h.base h.wk, h.grown, vR.refl _ _, Nat.le_refl _⟩
end
end Go.Proofs.Ytjfdomfendbhfaa
namespace Go.Proofs.Ytjfdomfendbhfaa
open Go.RowKit Go.Maps
theorem eK {els:List (List Nat)}{f:List Nat}(h:f∈els):numE els f=some (els.idxOf f):=if_pos h
theorem qET {els:List (List Nat)}{f:List Nat}(h:f ∉ els):numE els f=none:=if_neg h
inductive ProdS (w0:World)(B o mb k np:Nat)(pv:Value)(L:List (List Nat))(nxl fr bl:List Nat)(m q:Nat)(tl:List RowS)(w:World):Prop
 | mk (X:Nat->Prop) (hs:List Value) (sS sN sF sB:Option Addr) (cS cN cF cB u c:Nat)
  (hB:BoxS B X o 111 w0 w (⟨B,34,.slice sS m cS,m,hs,1⟩::⟨B,3,.slice sN q cN,q,nats nxl,1⟩::⟨B,3,.slice sF m cF,m,nats fr,1⟩::⟨B,3,.slice sB m cB,m,nats bl,1⟩::tl) #[.int .i64 (k:Int),pv,.slice sS m cS,.slice sN q cN,.slice sF m cF,.slice sB m cB] w)
  (hE:uF X 3 nats w hs L) (hM:MapK 9 (qK np) (fun l=>.string (txtT (kb l))) w mb u c (numE L)) (hmx:¬ X mb) (hmb:w0.heap.size<=mb) (hu:u<=m)
  (hl:L.length=m/\nxl.length=q/\fr.length=m/\bl.length=m) (hhs:hs.length=m)
section
variable {w0 w w':World} {B o mb k np m q:Nat} {pv:Value} {L:List (List Nat)} {nxl fr bl:List Nat} {tl:List RowS}
theorem ProdS.grow (h:ProdS w0 B o mb k np pv L nxl fr bl m q tl w)(hg:w.grownBy w' none):ProdS w0 B o mb k np pv L nxl fr bl m q tl w':=by
 obtain⟨X,hs,sS,sN,sF,sB,cS,cN,cF,cB,u,c,hB,hE,hM,h0,h1,hu,hl,h3⟩:=h;have h2:=hB.mem.keep hg;exact⟨X,hs,sS,sN,sF,sB,cS,cN,cF,cB,u,c,(hB.grow hg).rebase,hE.kept h2 hg.size,hM.kept hg (by simp),h0,h1,hu,hl,h3⟩
theorem ProdS.facts (h:ProdS w0 B o mb k np pv L nxl fr bl m q tl w):w0.grownBy w none/\B<=w.heap.size/\w0.heap.size<=B/\w0.heap.size<=o/\o<w.heap.size/\L.length=m/\nxl.length=q:=by
 obtain⟨X,hs,sS,sN,sF,sB,cS,cN,cF,cB,u,c,hB,hE,hM,h0,h1,hu,hl,h2⟩:=h;exact⟨hB.grown,Nat.le_trans hB.base hB.wk,hB.size,hB.old,zI hB.box,hl.1,hl.2.1⟩
theorem ProdS.cells (h:ProdS w0 B o mb k np pv L nxl fr bl m q tl w):∃ sS cS sN cN sF cF sB cB,w.heap[o]?=some (.cells #[.int .i64 (k:Int),pv,.slice sS m cS,.slice sN q cN,.slice sF m cF,.slice sB m cB] 111 (0,0))/\(0<m->∃ sb,sS=some ⟨sb,0,none⟩/\m<=cS/\cS<=maxLen/\∀ i,i<m->L.getD i []≠[]->∃ g off cap,w.cell? ⟨sb,i,none⟩=some (.slice (some ⟨g,off,none⟩) (L.getD i []).length cap)/\(L.getD i []).length<=cap/\cap<=maxLen/\∀ j,j<(L.getD i []).length->w.cell? ⟨g,off+j,none⟩=some (.int .i64 (((L.getD i []).getD j 0:Nat):Int))):=by
 obtain⟨X,hs,sS,sN,sF,sB,cS,cN,cF,cB,u,c,hB,hE,hM,h9,H0,hu,hl,H1⟩:=h;refine⟨sS,cS,sN,cN,sF,cF,sB,cB,hB.box,fun h0=>?_⟩;have ho:=hB.own (r:=⟨B,34,.slice sS m cS,m,hs,1⟩) (by simp);simp only at ho;obtain⟨sb,rfl,h1,h2,ha⟩:=wQ ho h0;refine⟨sb,rfl,h1,h2,fun i hi hne=>?_⟩;have h4:i<hs.length:=by omega
 have hr:=hE.2 i h4 (by omega);have h6:L.getD i []=L[i]'(by omega):=zG (by omega)
 have h3:0<(nats (L[i]'(by omega))).length:=by
  rw[zT,<- h6];exact List.length_pos_iff.2 hne
 rw[h6];obtain⟨g,off,cap,e,H2,h5,h8,h7⟩:=hr.1.row.some_ h3;rw[zT]at e h5;refine⟨g,off,cap,?_,h5,h8,fun j hj=>h7.nat j hj⟩;rw[ha.cell i h4,e]
theorem ProdS.map (h:ProdS w0 B o mb k np pv L nxl fr bl m q tl w):∃ u c,u<=m/\MapK 9 (qK np) (fun l=>.string (txtT (kb l))) w mb u c (numE L):=by
 obtain⟨X,hs,sS,sN,sF,sB,cS,cN,cF,cB,u,c,hB,hE,hM,h0,h1,hu,hl,h2⟩:=h;exact⟨u,c,hu,hM⟩
theorem ProdS.addRow (h:ProdS w0 B o mb k np pv L nxl fr bl m q [] w)(hg:w.grownBy w' none){e sz n:Nat}{v:Value}{xs:List Value}(ho:w'.ownsRow w.heap.size e sz v n xs)(he:e≠111):
  ProdS w0 B o mb k np pv L nxl fr bl m q (⟨B,e,v,n,xs,sz⟩::[]) w':=by
 obtain⟨X,hs,sS,sN,sF,sB,cS,cN,cF,cB,u,c,hB,hE,hM,h0,h1,hu,hl,h3⟩:=h;have h2:=hB.mem.keep hg;exact⟨X,hs,sS,sN,sF,sB,cS,cN,cF,cB,u,c,(hB.add hg ho he).rebase,hE.kept h2 hg.size,hM.kept hg (by simp),h0,h1,hu,hl,h3⟩
theorem ProdS.arr {e rb n cap:Nat}{xs:List Value}(h:ProdS w0 B o mb k np pv L nxl fr bl m q (⟨B,e,.slice (some ⟨rb,0,none⟩) n cap,n,xs,1⟩::[]) w):Arr w rb e xs:=by
 obtain⟨X,hs,sS,sN,sF,sB,cS,cN,cF,cB,u,c,hB,hE,hM,h0,h1,hu,hl,h2⟩:=h;exact Arr.of_owns (hB.own (r:=⟨B,e,.slice (some ⟨rb,0,none⟩) n cap,n,xs,1⟩) (by simp))
theorem ProdS.put {e rb n cap i:Nat}{xs:List Value}(h:ProdS w0 B o mb k np pv L nxl fr bl m q (⟨B,e,.slice (some ⟨rb,0,none⟩) n cap,n,xs,1⟩::[]) w)(hi:i<n)(y:Value):
  ProdS w0 B o mb k np pv L nxl fr bl m q (⟨B,e,.slice (some ⟨rb,0,none⟩) n cap,n,xs.set i y,1⟩::[]) (w.setCell ⟨rb,i,none⟩ y):=by
 obtain⟨X,hs,sS,sN,sF,sB,cS,cN,cF,cB,u,c,hB,hE,hM,h2,h3,hu,hl,h5⟩:=h;have hP:=hB.put (j:=4) rfl hi y;have h4:=hP.kept;have h0:=hP.wk
 have h1:rb≠mb:=fun e1=>by
  subst e1;exact yX (es:=#[]) (clock:=0) (hB.own (r:=⟨B,e,.slice (some ⟨rb,0,none⟩) n cap,n,xs,1⟩) (by simp)) hM.obj rfl
 exact⟨X,hs,sS,sN,sF,sB,cS,cN,cF,cB,u,c,hP.rebase,hE.kept h4 h0,hM.kept (zC w ⟨rb,i,none⟩ y) (fun e=>h1 (Oj e)),h2,h3,hu,hl,h5⟩
end
end Go.Proofs.Ytjfdomfendbhfaa
namespace Go.Proofs.Ytjfdomfendbhfaa
open Go.RowKit
theorem RowT.len_le {B e:Nat}{w:World}{v:Value}{xs:List Value}(h:RowT B e w v xs):xs.length<=maxLen:=h.row.len_le
theorem Mat.of_rowT {w:World}{B e:Nat}{v:Value}{hs:List Value}{t:List (List Int)}(h:RowT B e w v hs)(hr:xY B 3 ints w hs t)(hB:B<=w.heap.size):Mat w.heap.size w v t:=by
 have h0:=hr.1;rcases h with ⟨rfl,rfl⟩|⟨b,off,cap,cur,m,rfl,hb,hc1,hc2,hg,hcell⟩
 ·exact .inl ⟨_,_,rfl,List.eq_nil_of_length_eq_zero (by simpa using h0.symm)⟩
 ·have h3:∀ x,∃ a c,x<t.length->hs.getD x (.int .i64 0)=.slice a (t.getD x []).length c:=by
   intro x;by_cases hx:x<t.length
   ·have h1:=hr.2 x (by omega) hx
    obtain⟨a,c,e⟩:=h1.shape;refine⟨a,c,fun _=>?_⟩;rw[zG (by omega),e,yE,zG hx]
   ·exact⟨none,0,fun h=>absurd h hx⟩
  obtain⟨A,hA⟩:=Classical.axiomOfChoice h3;obtain⟨C,hC⟩:=Classical.axiomOfChoice hA;refine .inr ⟨b,off,cap,A,C,by rw[h0],by omega,hc2,zI hg,zI hg,fun x hx=>?_,fun x hx=>?_⟩
  ·rw[cell_of_row w b (off+x) _ _ _ hg,hcell x (by omega),<- hC x hx,zG (show x<hs.length by omega)]
  ·have h1:=hr.2 x (by omega) hx
   have h2:=hC x hx;rw[zG (show x<hs.length by omega)]at h2;rw[<- h2,zG hx];exact h1.row.mono hB
def DfaT (w:World)(f nx:Value)(d:DfaV):Prop:=∃ hs,RowT w.heap.size 4 w f (bls d.final)/\RowT w.heap.size 34 w nx hs/\xY w.heap.size 3 ints w hs d.next
section
variable {w w':World} {f nx:Value} {d:DfaV}
theorem DfaT.kept {row:Option Nat}(h:DfaT w f nx d)(hg:w.grownBy w' row)(h1:∀ k,row=some k->yF w 4 k/\yF w 34 k/\yF w 3 k):DfaT w' f nx d:=by
 obtain⟨hs,a,b,c⟩:=h;exact⟨hs,(a.kept hg (fun k hk=>.inr (h1 k hk).1)).mono hg.size,(b.kept hg (fun k hk=>.inr (h1 k hk).2.1)).mono hg.size,(c.kept hg (fun k hk=>.inr (h1 k hk).2.2)).mono hg.size⟩
theorem DfaT.grow (h:DfaT w f nx d)(hg:w.grownBy w' none):DfaT w' f nx d:=h.kept hg (by simp)
theorem DfaT.zero (w:World):DfaT w (.slice none 0 0) (.slice none 0 0) lD:=⟨[],.inl ⟨rfl,rfl⟩,.inl ⟨rfl,rfl⟩,xY.nil⟩
theorem DfaT.ok (h:DfaT w f nx d):uT w.heap.size w (.agg #[.int .i64 d.letters,.int .i64 d.start,f,nx]) d:=by
 obtain⟨hs,a,b,c⟩:=h;exact⟨_,_,rfl,a.row,Mat.of_rowT b c (Nat.le_refl _)⟩
end
theorem sI.t {w w':World}{v:Value}{m:DfaV}(h:sI w w' v m):∃ f nx,v=.agg #[.int .i64 m.letters,.int .i64 m.start,f,nx]/\DfaT w' f nx m:=by
 obtain⟨o,hs,sf,cf,sn,cn,rfl,_,hb⟩:=h;exact⟨_,_,rfl,hs,RowT.of_owns hb.ownF,RowT.of_owns hb.ownN,hb.rows⟩
def dY (w:World)(E:Int)(m:DfaV)(e:Ending)(w':World):Prop:=∃ f nx,e=.returned (.tuple #[.agg #[.int .i64 m.letters,.int .i64 m.start,f,nx],.int .i64 E])/\DfaT w' f nx m/\w.grownBy w' none
theorem xG {w w':World}{p:Addr}{u:Value}(h:w.cell? p=some u)(hg:w.grownBy w' none):w'.cell? p=some u:=(World.cell?_of_block (hg.block p.block (World.block_lt_of_cell? w p h) (by simp))).trans h
def uJ (B:Nat)(w:World)(v:Value)(ps:List (List ByteArray)):Prop :=
 ∃ svs,Row B w v svs/\svs.length=ps.length/\∀ i (h1:i<svs.length) (h2:i<ps.length),Row B w svs[i] (txtV ps[i])/\∀ j (hj:j<ps[i].length),ps[i][j].size<=maxLen
section
variable {B:Nat} {w:World} {v:Value} {ps:List (List ByteArray)}
theorem uJ.kept {w':World}{row:Option Nat}(h:uJ B w v ps)(hg:w.grownBy w' row)(hr:∀ k,row=some k->B<=k):uJ B w' v ps:=by
 obtain⟨svs,h1,h2,h3⟩:=h;exact⟨svs,h1.kept hg hr,h2,fun i h4 h5=>⟨(h3 i h4 h5).1.kept hg hr,(h3 i h4 h5).2⟩⟩
theorem uJ.mono {B':Nat}(h:uJ B w v ps)(hB:B<=B'):uJ B' w v ps:=by
 obtain⟨svs,h1,h2,h3⟩:=h;exact⟨svs,h1.mono hB,h2,fun i h4 h5=>⟨(h3 i h4 h5).1.mono hB,(h3 i h4 h5).2⟩⟩
theorem uJ.shape (h:uJ B w v ps):∃ a c,v=.slice a ps.length c:=by
 obtain⟨svs,h1,h2,h3⟩:=h;obtain⟨a,c,rfl⟩:=h1.shape;exact⟨a,c,by rw[h2]⟩
theorem uJ.len_le (h:uJ B w v ps):ps.length<=maxLen:=by
 obtain⟨svs,h1,h2,h3⟩:=h;rw[<- h2];exact h1.len_le
theorem uJ.nil (a:Option Addr)(c:Nat):uJ B w (.slice a 0 c) []:=⟨[],.inl ⟨a,c,rfl,rfl⟩,rfl,fun i h=>by simp at h⟩
theorem uJ.at_ (h:uJ B w v ps)(h0:0<ps.length):∃ b off cap,v=.slice (some ⟨b,off,none⟩) ps.length cap/\b<B/\ps.length<=cap/\cap<=maxLen /\
  ∀ i,i<ps.length->∃ sa sc,w.cell? ⟨b,off+i,none⟩=some (.slice sa (ps.getD i []).length sc)/\Row B w (.slice sa (ps.getD i []).length sc) (txtV (ps.getD i []))/\∀ j (hj:j<(ps.getD i []).length),(ps.getD i [])[j].size<=maxLen:=by
 obtain⟨svs,h1,h2,h3⟩:=h;obtain⟨b,off,cap,rfl,hb,hc,hm,h7⟩:=h1.some_ (by omega);refine⟨b,off,cap,by rw[h2],hb,by omega,hm,fun i hi=>?_⟩;have h6:i<svs.length:=by omega
 obtain⟨h4,h5⟩:=h3 i h6 hi;obtain⟨sa,sc,e⟩:=h4.shape;rw[yB]at e;have hc:=h7.2 i h6;have e2:ps.getD i []=ps[i]:=zG hi;rw[e2];refine⟨sa,sc,by rw[hc,e],by rw[<- e];exact h4,h5⟩
end
structure ChosO (w:World)(g off:Nat)(cs:List ChoV):Prop where
 lt:g<w.heap.size
 p:∀ i,i<cs.length->w.cell? ⟨g,off+i * 3,none⟩=some (.int .i64 (cs.getD i default).p)
 y:∀ i,i<cs.length->w.cell? ⟨g,off+i * 3+1,none⟩=some (.int .i64 (cs.getD i default).y)
 n:∀ i,i<cs.length->w.cell? ⟨g,off+i * 3+2,none⟩=some (.int .i64 (cs.getD i default).n)
theorem ChosO.kept {w w':World}{g off:Nat}{cs:List ChoV}{row:Option Nat}(h:ChosO w g off cs)(hg:w.grownBy w' row)(hr:row≠some g):ChosO w' g off cs:=by
 have hb:=hg.block g h.lt (fun e=>hr e.symm);exact⟨Nat.lt_of_lt_of_le h.lt hg.size,fun i hi=>(World.cell?_of_block hb).trans (h.p i hi),fun i hi=>(World.cell?_of_block hb).trans (h.y i hi),fun i hi=>(World.cell?_of_block hb).trans (h.n i hi)⟩
def qN (B:Nat)(w:World)(v:Value)(cs:List ChoV):Prop :=
 (∃ a cap,v=.slice a 0 cap/\cs=[])\/∃ b off cap,v=.slice (some ⟨b,off,none⟩) cs.length cap/\b<B/\cs.length<=cap/\cap<=maxLen/\ChosO w b off cs
section
variable {B:Nat} {w:World} {v:Value} {cs:List ChoV}
theorem qN.kept {w':World}{row:Option Nat}(h:qN B w v cs)(hg:w.grownBy w' row)(hr:∀ k,row=some k->B<=k):qN B w' v cs:=by
 rcases h with h|⟨b,off,cap,h1,h2,h3,h4,h5⟩
 ·exact .inl h
 ·exact .inr ⟨b,off,cap,h1,h2,h3,h4,h5.kept hg (fun e=>by have:=hr b e;omega)⟩
theorem qN.mono {B':Nat}(h:qN B w v cs)(hB:B<=B'):qN B' w v cs:=by
 rcases h with h|⟨b,off,cap,h1,h2,h3⟩
 ·exact .inl h
 ·exact .inr ⟨b,off,cap,h1,by omega,h3⟩
theorem qN.shape (h:qN B w v cs):∃ a c,v=.slice a cs.length c:=by
 rcases h with ⟨a,c,rfl,rfl⟩|⟨b,off,cap,rfl,_⟩
 ·exact⟨a,c,rfl⟩
 ·exact⟨_,_,rfl⟩
theorem qN.len_le (h:qN B w v cs):cs.length<=maxLen:=by
 rcases h with ⟨a,c,rfl,rfl⟩|⟨b,off,cap,rfl,h1,h2,h3,_⟩
 ·exact Nat.zero_le _
 ·omega
theorem qN.at_ (h:qN B w v cs)(h0:0<cs.length):∃ b off cap,v=.slice (some ⟨b,off,none⟩) cs.length cap/\b<B/\cs.length<=cap/\cap<=maxLen/\ChosO w b off cs:=by
 rcases h with ⟨a,c,rfl,rfl⟩|h
 ·simp at h0
 ·exact h
end
def qM (B:Nat)(w:World)(v:Value)(g:DiaV):Prop:=∃ pv cv,v=.agg #[pv,cv,.int .i64 g.root]/\uJ B w pv g.pats/\qN B w cv g.chos
theorem qM.kept {B:Nat}{w w':World}{v:Value}{g:DiaV}{row:Option Nat}(h:qM B w v g)(hg:w.grownBy w' row)(hr:∀ k,row=some k->B<=k):qM B w' v g:=by
 obtain⟨pv,cv,h1,h2,h3⟩:=h;exact⟨pv,cv,h1,h2.kept hg hr,h3.kept hg hr⟩
theorem qM.mono {B B':Nat}{w:World}{v:Value}{g:DiaV}(h:qM B w v g)(hB:B<=B'):qM B' w v g:=by
 obtain⟨pv,cv,h1,h2,h3⟩:=h;exact⟨pv,cv,h1,h2.mono hB,h3.mono hB⟩
theorem zH {w:World}{p e:Nat}{x0 x1 x2:Value}{m:Nat×Nat}(h:w.heap[p]?=some (.cells #[x0,x1,x2] e m)):
  w.cell? ⟨p,0,none⟩=some x0/\w.cell? ⟨p,1,none⟩=some x1/\w.cell? ⟨p,2,none⟩=some x2:=by
 have c0:=zJ h 0 (by simp);have c1:=zJ h 1 (by simp);have c2:=zJ h 2 (by simp);exact⟨by simpa using c0,by simpa using c1,by simpa using c2⟩
theorem gV:ElemN Try.prog 84 42 4 (.agg #[.int .i64 0,.int .i64 0,.slice none 0 0,.slice none 0 0]) 64:=⟨by kernel_rfl,by kernel_rfl,by rfl,by decide⟩
def dval (x:DfaV×Value×Value):List Value:=[.int .i64 x.1.letters,.int .i64 x.1.start,x.2.1,x.2.2]
def jN (l:List (DfaV×Value×Value)):List Value:=l.flatMap dval
theorem dvals_snoc (l:List (DfaV×Value×Value))(x:DfaV×Value×Value):jN (l++[x])=jN l++dval x:=by simp[jN]
theorem qCZ:∀ (l:List (DfaV×Value×Value)) (i:Nat) (h:i<l.length),(jN l)[i * 4]?=some (.int .i64 l[i].1.letters)/\(jN l)[i * 4+1]?=some (.int .i64 l[i].1.start)/\(jN l)[i * 4+2]?=some l[i].2.1/\(jN l)[i * 4+3]?=some l[i].2.2
 | [],i,h=>by simp at h
 | x::l,0,_=>⟨rfl,rfl,rfl,rfl⟩
 | x::l,i+1,h=>by
  have h1:=qCZ l i (by simpa using h)
  have e:jN (x::l)=.int .i64 x.1.letters::.int .i64 x.1.start::x.2.1::x.2.2::jN l:=rfl
  rw[e,show (i+1) * 4=i * 4+1+1+1+1 by omega]
  rw[show i * 4+1+1+1+1+1=(i * 4+1)+1+1+1+1 by omega,show i * 4+1+1+1+1+2=(i * 4+2)+1+1+1+1 by omega,show i * 4+1+1+1+1+3=(i * 4+3)+1+1+1+1 by omega]
  simpa using h1
structure DsUp (base:Nat)(w:World)(v:Value)(l:List (DfaV×Value×Value)):Prop where
 own:w.ownsRow base 42 4 v l.length (jN l)
 ok:∀ x∈l,DfaT w x.2.1 x.2.2 x.1
section
variable {base:Nat} {w w':World} {v:Value} {l:List (DfaV×Value×Value)}
theorem DsUp.grow (h:DsUp base w v l)(hg:w.grownBy w' none):DsUp base w' v l:=⟨zQ h.own hg,fun x hx=>(h.ok x hx).grow hg⟩
theorem DsUp.other {n:Nat}{xs:List Value}(h:w.ownsRow base 42 4 v n xs):∀ k,v.ownBlock=some k->yF w 4 k/\yF w 34 k/\yF w 3 k:=fun k hk=>⟨yU h (by decide) k hk,yU h (by decide) k hk,yU h (by decide) k hk⟩
theorem DsUp.push {v' : Value}{x : DfaV × Value × Value}(h : DsUp base w v l)(hx : DfaT w x.2.1 x.2.2 x.1)(ho : w'.ownsRow base 42 4 v' (l.length + 1) (jN l ++ dval x))(hg : w.grownBy w' v.ownBlock): DsUp base w' v' (l ++ [x]) :=
 ⟨by rw[dvals_snoc, List.length_append]; exact ho, fun y hy => by
  have hot : ∀ k, v.ownBlock = some k -> yF w 4 k /\ yF w 34 k /\ yF w 3 k := DsUp.other h.own
  rcases List.mem_append.1 hy with hy | hy
  ·exact(h.ok y hy).kept hg hot
  ·simp at hy; subst hy; exact hx.kept hg hot⟩
end
structure DsO (B:Nat)(w:World)(g off:Nat)(ds:List DfaV):Prop where
 lt:g<w.heap.size
 gB:g<B
 at_:∀ i,i<ds.length->∃ f nx,w.cell? ⟨g,off+i * 4,none⟩=some (.int .i64 (ds.getD i dN).letters)/\w.cell? ⟨g,off+i * 4+1,none⟩=some (.int .i64 (ds.getD i dN).start)/\w.cell? ⟨g,off+i * 4+2,none⟩=some f/\w.cell? ⟨g,off+i * 4+3,none⟩=some nx/\uT B w (.agg #[.int .i64 (ds.getD i dN).letters,.int .i64 (ds.getD i dN).start,f,nx]) (ds.getD i dN)
theorem DsO.kept {B:Nat}{w w':World}{g off:Nat}{ds:List DfaV}{row:Option Nat}(h:DsO B w g off ds)(hg:w.grownBy w' row)(hr:∀ k,row=some k->B<=k):DsO B w' g off ds:=by
 have hb:=hg.block g h.lt (fun e=>by have:=hr g e.symm;have:=h.gB;omega);refine⟨Nat.lt_of_lt_of_le h.lt hg.size,h.gB,fun i hi=>?_⟩;obtain⟨f,nx,h1,h2,h3,h4,h5⟩:=h.at_ i hi;exact⟨f,nx,(World.cell?_of_block hb).trans h1,(World.cell?_of_block hb).trans h2,(World.cell?_of_block hb).trans h3,(World.cell?_of_block hb).trans h4,h5.kept hg hr⟩
def DsIn (B:Nat)(w:World)(v:Value)(ds:List DfaV):Prop :=
 (∃ a cap,v=.slice a 0 cap/\ds=[])\/∃ b off cap,v=.slice (some ⟨b,off,none⟩) ds.length cap/\ds.length<=cap/\cap<=maxLen/\DsO B w b off ds
theorem DsIn.kept {B:Nat}{w w':World}{v:Value}{ds:List DfaV}{row:Option Nat}(h:DsIn B w v ds)(hg:w.grownBy w' row)(hr:∀ k,row=some k->B<=k):DsIn B w' v ds:=by
 rcases h with h|⟨b,off,cap,h1,h2,h3,h4⟩
 ·exact .inl h
 ·exact .inr ⟨b,off,cap,h1,h2,h3,h4.kept hg hr⟩
theorem DsIn.shape {B:Nat}{w:World}{v:Value}{ds:List DfaV}(h:DsIn B w v ds):∃ a c,v=.slice a ds.length c:=by
 rcases h with ⟨a,c,rfl,rfl⟩|⟨b,off,cap,rfl,_⟩
 ·exact⟨a,c,rfl⟩
 ·exact⟨_,_,rfl⟩
theorem DsIn.head {B:Nat}{w:World}{v:Value}{ds:List DfaV}(h:DsIn B w v ds)(h0:0<ds.length):∃ b off cap,v=.slice (some ⟨b,off,none⟩) ds.length cap/\ds.length<=cap/\cap<=maxLen/\DsO B w b off ds:=by
 rcases h with ⟨a,c,rfl,rfl⟩|h
 ·simp at h0
 ·exact h
theorem DsUp.in_ {base:Nat}{w:World}{v:Value}{l:List (DfaV×Value×Value)}(h:DsUp base w v l):DsIn w.heap.size w v (l.map (·.1)):=by
 have h5:∀ g j,(⟨g,0,none⟩:Addr).add j=⟨g,j,none⟩:=fun g j=>by unfold Addr.add;split<;>simp_all
 rcases h.own.2 with ⟨rfl,h0⟩|⟨g,cap,cur,rfl,hb,hg,hnc,hcm,_⟩
 ·exact .inl ⟨_,_,rfl,by rw[List.map_eq_nil_iff];exact List.eq_nil_of_length_eq_zero h0⟩
 ·refine .inr ⟨g,0,cap,by rw[List.length_map],by rw[List.length_map];exact hnc,hcm,zI hg,zI hg,fun i hi=>?_⟩
  rw[List.length_map]at hi;obtain⟨h1,h2,h3,h4⟩:=qCZ l i hi;have c1:=h.own.cells (g:=g) rfl _ _ h1;have c2:=h.own.cells (g:=g) rfl _ _ h2;have c3:=h.own.cells (g:=g) rfl _ _ h3;have c4:=h.own.cells (g:=g) rfl _ _ h4;rw[h5]at c1 c2 c3 c4;have e:(l.map (·.1)).getD i dN=l[i].1:=by rw[zG (by simpa using hi)];simp
  rw[e,Nat.zero_add];exact⟨_,_,c1,c2,c3,c4,(h.ok _ (List.getElem_mem hi)).ok⟩
theorem make0N {P:Program}{w:World}{ops:Array Oper}{rest:List Oper}{o:Oper}{a:Act}{Q:Exit->Act->World->Prop}(hgd:o.guard=none)(l c:Operand)(t:TypeId)(ho:o.op=.makeSlice t l c){e:TypeId}{sz:Nat}{z:Value}{bytes:Nat}(E:ElemN P t e sz z bytes)(kl kc:IntKind)(C:Int)(n:Nat)(hl:a.eval l=.int kl 0)(hc:a.eval c=.int kc C)(hC:C=(n:Int))(hb:bytes * n<=281474976710656)(h63:n<=maxLen)(h:∀ w',w'.ownsRow w.heap.size e sz (.slice (some ⟨w.heap.size,0,none⟩) 0 n) 0 []->w.grownBy w' none->wpList P ops Q rest (a.put o.dst (.slice (some ⟨w.heap.size,0,none⟩) 0 n)) w'):wpList P ops Q (o::rest) a w:=by
 obtain⟨i,hi,h0,h1,h2⟩:=info_parts E.hi;exact wpList_make_own w hgd l c t ho w.heap.size e i z sz E.ht hi h0 h1 kl kc C n hl hc hC (by rw[h2];exact hb) h63 (Nat.le_refl _) h
end Go.Proofs.Ytjfdomfendbhfaa
