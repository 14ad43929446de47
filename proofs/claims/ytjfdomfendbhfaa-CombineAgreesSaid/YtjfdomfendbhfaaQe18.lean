/- Part 18 of the proof: PMini, DErr, CKey, PosRow0, BoxN. -/
import Derived.Test.YtjfdomfendbhfaaQe17
import Derived.Deep.OwnRows
set_option linter.unusedVariables false
set_option linter.unusedSimpArgs false
namespace Go.Proofs.Ytjfdomfendbhfaa
open Go.RowKit
set_option maxRecDepth 100000 in
set_option maxHeartbeats 1000000 in
theorem pI (B:Nat) (w:World) (v:Value) (d:DfaV) (n k:Nat) (hB:B<=w.heap.size) (h:tE B w v d) (hd:VD d n k) (h5:n<=512) :
  Calls Try.prog 58 #[v] w (qDF w (minD d k)):=by
 have h0:=h
 obtain⟨fb,fo,fc,b,off,cap,RB,RO,RC,rfl,b6⟩:=h.at hd
 obtain⟨S,hS⟩:∃ S,S=st0 d:=⟨_,rfl⟩
 have a7:dAgg k (st0 d) fb fo fc b off cap n=.agg #[.int .i64 (k:Int),.int .i64 (S:Int),.slice (some ⟨fb,fo,none⟩) n fc,.slice (some ⟨b,off,none⟩) n cap]:=by rw[hS];rfl
 rw[a7]at h0 ⊢
 obtain⟨h4,H1,h6,a5⟩:=kK w #[.int .i64 (k:Int),.int .i64 (S:Int),.slice (some ⟨fb,fo,none⟩) n fc,.slice (some ⟨b,off,none⟩) n cap] #[.int .i64 0,.int .i64 0,.slice none 0 0,.slice none 0 0] 42
 obtain⟨wA,H4⟩:∃ wA,wA=(w.alloc (.cells #[.int .i64 (k:Int),.int .i64 (S:Int),.slice (some ⟨fb,fo,none⟩) n fc,.slice (some ⟨b,off,none⟩) n cap] 42)).alloc (.cells #[.int .i64 0,.int .i64 0,.slice none 0 0,.slice none 0 0] 42):=⟨_,rfl⟩
 rw[<- H4]at h4 H1 h6 a5
 obtain⟨c0,c1,c2,c3⟩:=zG h4
 obtain⟨P,hP⟩:∃ P,P=w.heap.size:=⟨_,rfl⟩
 obtain⟨Q,hQ⟩:∃ Q,Q=w.heap.size+1:=⟨_,rfl⟩
 have c9:=Kh hP;have c8:Hid (Q=P+1):=Kh (by omega)
 have f4:P < Q:=by omega
 have e7:Q < wA.heap.size:=by omega
 have e9:w.heap.size<=P:=by omega
 have b7:B<=wA.heap.size:=by omega
 rw[<- hQ]at H1
 rw[<- hP]at h4 c0 c1 c2 c3 hB
 have d9:=Kh h4;have d8:=Kh H1;have d4:=Kh h6;have b8:=Kh H4;have HD:=Kh hd
 have a2:=Kh (h0.kept h6 (by simp))
 have a9:=Kh (vQ B wA _ d b7 a2.out)
 have c4:=Kh (qH hd h5)
 clear h4 H1 h6 H4 b6 hd h h0 a7 hS a5 hP hQ
 go_enter Try.func58,Try.ntmps58
 go_upto_region 1 with fail
 rw[<- b8.out,<- c9.out,<- c8.out]
 go_wp2_with fail
 refine a9.out.mono ?_
 rintro e w1 ⟨rfl,h2⟩
 rw[c4.out]
 have e6:=h2.size
 have d6:=Kh h2
 have a4:=Kh (zA d9.out h2 (by simp));have a3:=Kh (zA d8.out h2 (by simp))
 have b1:=Kh (pminimal_any B w1 _ d n k (by omega) (a2.out.kept h2 (by simp)) HD.out h5)
 obtain⟨d0,d1,d2,d3⟩:=zG a4.out
 clear h2 a9 c0 c1 c2 c3
 go_wp2_with fail
 refine b1.out.mono ?_
 rintro e w2 ⟨v2,sv,rfl,⟨o,hs,sf,cf,sn,cn,rfl,ho,h9⟩,h8⟩
 rw[min_trim HD.out]at h9 ⊢
 obtain⟨R,hR⟩:∃ R,R=minD d k:=⟨_,rfl⟩
 rw[<- hR]at h9 ⊢
 have H7:R.letters=k:=by rw[hR];exact(pY HD.out).hk
 have H6:R.start=0:=by rw[hR];rfl
 obtain⟨FL,H9⟩:∃ FL,FL=R.final.length:=⟨_,rfl⟩
 obtain⟨NL,H8⟩:∃ NL,NL=R.next.length:=⟨_,rfl⟩
 rw[H7,H6,<- H9,<- H8]
 have b0:=Kh hR;have c7:=Kh H7;have c6:=Kh H6;have a1:=Kh H9;have a0:=Kh H8;have d7:=Kh h9
 have d5:=Kh h8
 obtain⟨T3,H5⟩:∃ T3,T3=w2.heap.size:=⟨_,rfl⟩
 obtain⟨w3,H2⟩:∃ w3,w3=w2.alloc (.cells #[.int .i64 (k:Int),.int .i64 0,.slice sf FL cf,.slice sn NL cn] 42):=⟨_,rfl⟩
 have h3:=Ga w2 (.cells #[.int .i64 (k:Int),.int .i64 0,.slice sf FL cf,.slice sn NL cn] 42) none
 have H0:=heap_alloc_new w2 (.cells #[.int .i64 (k:Int),.int .i64 0,.slice sf FL cf,.slice sn NL cn] 42)
 rw[<- H2]at h3 H0
 rw[<- H5]at H0
 have e5:=h8.size
 have e4:=h3.size
 have b9:=Kh H2;have c5:=Kh H5;have b2:=Kh h3
 have h1:=zA (zA a3.out h8 (by simp)) h3 (by simp)
 have b3:=Kh h1
 obtain⟨e0,e1,e2,e3⟩:=zG H0
 obtain⟨q0,q1,q2,q3⟩:=zG h1
 have f0:=zE h1 0
 have f1:=zE h1 1
 have f2:=zE h1 2
 have f3:=zE h1 3
 have e8:Q < T3:=by omega
 clear hR H7 H6 H9 H8 h9 h8 H2 H5 h3 H0 h1 d0 d1 d2 d3 b1 a2
 go_upto_region 4 with fail
 rw[<- b9.out,<- c5.out]
 go_wp2
 obtain⟨a8,H3⟩:=wG b3.out (.int .i64 (k:Int)) (.int .i64 0) (.slice sf FL cf) (.slice sn NL cn)
 obtain⟨wz,a6⟩:∃ wz,wz=(((w3.setCell ⟨Q,0,none⟩ (.int .i64 (k:Int))).setCell ⟨Q,1,none⟩ (.int .i64 0)).setCell ⟨Q,2,none⟩ (.slice sf FL cf)).setCell ⟨Q,3,none⟩ (.slice sn NL cn):=⟨_,rfl⟩
 rw[<- a6]at a8 H3 ⊢
 clear a6
 obtain⟨r0,r1,r2,r3⟩:=zG a8
 clear e0 e1 e2 e3 q0 q1 q2 q3 f0 f1 f2 f3
 refine bodyPost_ret (v:=.agg #[.int .i64 (k:Int),.int .i64 0,.slice sf FL cf,.slice sn NL cn]) (by simp[results,Try.results58,go_sem,r0,r1,r2,r3]) rfl ?_
 have b4:w.grownBy wz none:=zB (zB (zB (zB d4.out d6.out (by simp)) d5.out (by simp)) b2.out (by simp)) H3 (fun k e=>by have h7:Q=k:=Oj e;omega)
 have b5:=(d7.out.grow b2.out).far H3 b3.out (by omega)
 refine⟨_,rfl,⟨o,hs,sf,cf,sn,cn,?_,by omega,by rw[<- b0.out];exact b5⟩,b4⟩
 rw[<- b0.out,c6.out,c7.out,a1.out,a0.out]
theorem fJ (n:Nat) (h:n<=4096):∀ w:World,(Instr.makeSlice 39 (.int .i64 (n:Int)) (.int .i64 (n:Int))).run Try.prog w=.ok (.slice (some ⟨w.heap.size,0,none⟩) n n) (w.alloc (.cells (madeCells #[.bool false] n) 4)) :=
 fun w=>run_make_row' 39 4 (.bool false) 1 Try.underlying39 (by kernel_rfl) rfl .i64 .i64 n (by omega) (by omega) w
theorem nQ (n:Nat):(madeCells #[.bool false] n).toList=bls (List.replicate n false):=by
 have:=rE (z:=.bool false) rfl n
 rw[Nat.mul_one]at this
 rw[show bls (List.replicate n false)=List.replicate n (.bool false) by simp[bls]];exact this
def gL:DfaV:=⟨0,0,[],[]⟩
theorem xX {x:Int} (h:-9223372036854775808<=x/\x<=9223372036854775807):IntKind.i64.wrap x=x:=by
 unfold IntKind.wrap;simp[IntKind.bits,IntKind.signed];omega
end Go.Proofs.Ytjfdomfendbhfaa
namespace Go.Proofs.Ytjfdomfendbhfaa
open Go.RowKit Go.Maps
def kb (l:List Nat):List Nat:=l.flatMap fun q=>[q / 256,q % 256]
theorem kb_length (l:List Nat):(kb l).length=2 * l.length:=by
 induction l with
 | nil=>rfl
 | cons x l ih=>simp only[kb,List.flatMap_cons,List.length_append,List.length_cons,List.length_nil]at ih ⊢;omega
theorem kb_snoc (l:List Nat) (x:Nat):kb (l ++ [x])=kb l ++ [x / 256,x % 256]:=by simp[kb]
theorem qCQ:∀ {l m:List Nat},kb l=kb m->l=m
 | [],[],_=>rfl
 | [],y :: m,h=>by simp[kb]at h
 | x :: l,[],h=>by simp[kb]at h
 | x :: l,y :: m,h=>by
  simp only[kb,List.flatMap_cons,List.cons_append,List.nil_append,List.cons.injEq]at h
  obtain⟨h1,h2,h3⟩:=h
  rw[qCQ (l:=l) (m:=m) h3,show x=y by omega]
def jZ (n:Nat) (l:List Nat):Prop:=l.length=n/\∀ x∈l,x < 512
theorem aN {n:Nat} {l:List Nat} (h:jZ n l):∀ x∈kb l,x < 256:=by
 intro x hx
 simp only[kb,List.mem_flatMap,List.mem_cons,List.not_mem_nil,or_false]at hx
 obtain⟨q,hq,hx⟩:=hx
 have:=h.2 q hq
 omega
theorem eQ (l:List Nat):(txtT l).size=l.length:=by
 have:(txtT l).size=(txtT l).data.toList.length:=by rw[Array.length_toList];rfl
 rw[this]
 unfold txtT
 rw[strOfNums_data]
 simp[zb]
theorem key_kb {n:Nat} (h:n<=400):KeyK 129 9 (jZ n) (fun l=>.string (txtT (kb l))) where
 key:=hO
 und:=lG
 of:=fun a ha=>by rw[Go.WideMaps.keyOf_string_mk kN (by rw[eQ,kb_length,ha.1];unfold maxLen;omega)];rfl
 inj:=fun a b ha hb e=>qCQ (qCM (aN ha) (aN hb) (by simpa using e))
theorem u8s_append (l m:List Nat):u8s (l ++ m)=u8s l ++ u8s m:=by simp[u8s,zb]
theorem rowLit {w:World} {b e n:Nat} {cs:Array Value} {m:Nat × Nat} (h:w.heap[b]?=some (.cells cs e m)) (hn:cs.size=n) (hm:n<=maxLen):Row (b+1) w (.slice (some ⟨b,0,none⟩) n n) cs.toList :=
 .inr ⟨b,0,n,by simp[hn],by omega,by simp[hn],hm,zH h,fun i hi=>by
  rw[Nat.zero_add,cell_of_row w b i _ _ _ h]
  have:i < cs.size:=by simpa using hi
  simp[this]⟩
set_option maxHeartbeats 800000 in
theorem qAB (B:Nat) (w:World) (v:Value) (l:List Nat) (n:Nat) (hB:B<=w.heap.size) (h:Row B w v (nats l)) (hs:jZ n l) (hn:n<=400) :
  Calls Try.prog 84 #[v] w fun e w'=>e=.returned (.string (txtT (kb l)))/\w.grownBy w' none:=by
 obtain⟨a,c,rfl⟩:=h.shape
 have H7:=h.len_le
 rw[yB,hs.1]at H7 ⊢
 have H:=Kh h;have HS:=Kh hs
 clear h hs
 go_enter Try.func84,Try.ntmps84
 go_wp2_with (first|(at_make;refine make0 rfl _ _ _ rfl fU .i64 .i64 _ (2 * n) rfl rfl ?m1 ?m2 ?m3 ?_)|fail)
 case m1=>omega
 case m2=>omega
 case m3=>unfold maxLen;omega
 intro w1 h1 H0
 have H1:=Kh h1;have H3:=Kh H0
 clear h1 H0
 go_wp2
 go_loopg [3,5,12] n (fun gh v3 a5 i wr=>∃ (k:Nat) (sa:Option Addr) (sc:Nat),gh+k=n/\i=.int .i64 k/\v3=.slice sa (2 * k) sc/\wr.ownsRow w.heap.size 5 1 (.slice sa (2 * k) sc) (2 * k) (u8s (kb (l.take k)))/\w.grownBy wr none)
 case atStart=>exact⟨0,_,_,rfl,rfl,rfl,H1.out,H3.out⟩
 case round =>
  clear H1 H3
  obtain⟨k,sa,sc,hg,rfl,rfl,h2,h3⟩:=hrel
  have HG:=Kh hg;have HO:=Kh h2;have H2:=Kh h3
  clear hg h2
  by_cases hk:k < n
  ·have H5:(k:Int) < n:=by omega
   obtain⟨kb_,ko,kc,e,_,h8,h7,h5⟩:=(H.out.kept h3 (by simp)).some_ (by rw[yB,HS.out.1];omega)
   rw[yB,HS.out.1]at e h8
   simp only[Value.slice.injEq]at e
   obtain⟨rfl,_,rfl⟩:=e
   have a7:c<=9223372036854775807:=by unfold maxLen at h7;omega
   have c1:=h5.nat k (by rw[HS.out.1];exact hk)
   have h4:Hid (u8s (kb (l.take (k+1)))=u8s (kb (l.take k)) ++ [.int .u8 ((l.getD k 0 / 256:Nat):Int),.int .u8 ((l.getD k 0 % 256:Nat):Int)]):=Kh (by
    rw[zW (d:=0) (by rw[HS.out.1];exact hk),kb_snoc,u8s_append];rfl)
   have H4:l.getD k 0 < 512:=HS.out.2 _ (by rw[zF (by rw[HS.out.1];exact hk)];exact List.getElem_mem _)
   obtain⟨x,hx⟩:∃ x,x=l.getD k 0:=⟨_,rfl⟩
   rw[<- hx]at c1 h4 H4
   obtain⟨y,hy⟩:∃ y,y=x / 256:=⟨_,rfl⟩
   obtain⟨z,hz⟩:∃ z,z=x % 256:=⟨_,rfl⟩
   rw[<- hy,<- hz]at h4
   have e1:(x:Int) / 2 ^ 8=(y:Int):=by rw[hy];omega
   have e2:(x:Int) / 256=(y:Int):=by rw[hy];omega
   have e3:IntKind.u8.wrap (y:Int)=y:=IntWalk.u8_in _ (by omega)
   have e4:IntKind.u8.wrap (x:Int)=z:=by
    have:IntKind.u8.wrap (x:Int)=(x:Int) % 256:=by simp[IntKind.wrap,IntKind.bits,IntKind.signed]
    rw[this,hz];omega
   have a6:=h3.size
   have H8:Hid (∀ W:World,wr.grownBy W none->W.ownsRow w.heap.size 5 1 (.slice sa (2 * k) sc) (2 * k) (u8s (kb (l.take k)))):=Kh (fun W hW=>zQ HO.out hW)
   clear h5 h8 h7 h3 hx hy hz
   go_wp2_with (first|(at_builtin;refine appR rfl _ _ _ rfl fU w.heap.size (.slice sa (2 * k) sc) (2 * k) _ rfl (H8.out _ (Ga wr _ none)) (.slice (some ⟨wr.heap.size,0,none⟩) 2 2) [.int .u8 (y:Int),.int .u8 (z:Int)] rfl ⟨wr.heap.size+1,?r0⟩ ?r1 (2 * (k+1)) ?a1 ?a2 ?a3 ?a4 ?_)|fail)
   case r0=>exact rowLit (heap_alloc_new wr _) rfl (by unfold maxLen;omega)
   case r1=>intro u hu;simp at hu;rcases hu with rfl|rfl <;> rfl
   case a1=>simp;omega
   case a2=>unfold maxLen;omega
   case a3=>omega
   case a4=>rw[zM];omega
   intro sa' sc' w8 h0 h9
   have H9:Hid (w8.ownsRow w.heap.size 5 1 (.slice sa' (2 * (k+1)) sc') (2 * (k+1)) (u8s (kb (l.take (k+1))))):=Kh (by rw[h4.out];exact h0)
   have a0:Hid (w.grownBy w8 none):=Kh (zB (zB H2.out (Ga wr _ none) (by simp)) h9 (fun x e=>(HO.out.lt x e).1))
   clear h0 h9
   go_wp2
   go_roundg (n - (k+1))
   case measure=>have:=HG.out;omega
   case rel=>exact⟨k+1,sa',sc',by have:=HG.out;omega,by go_num,rfl,H9.out,a0.out⟩
  ·have h6:k=n:=by have:=HG.out;omega
   have H5:¬ (k:Int) < n:=by omega
   have HE:Hid (l.take k=l):=Kh (by rw[h6,<- HS.out.1];exact List.take_length)
   rw[HE.out]at HO
   have H6:=tM 106 5 Try.underlying106 Try.underlying5 9 Try.underlying9 HO.out
   obtain⟨X,hX⟩:∃ X,X=txtT (kb l):=⟨_,rfl⟩
   rw[show strOfNums (zb (kb l))=X from hX.symm]at H6
   have HX:=Kh hX
   clear h6 h3 hX
   go_wp2
   go_ret
   exact⟨by rw[HX.out];rfl,H2.out⟩
end Go.Proofs.Ytjfdomfendbhfaa
namespace Go.Proofs.Ytjfdomfendbhfaa
open Go.RowKit
theorem cZ {P:Program} {w:World} {o:Oper} {a:Act} {K:Act->World->Prop} {Q:Exit->Act->World->Prop} (s x:Operand) (t:TypeId)
  (ho:o.op=.call { callee:=.builtin .append,args:=#[s,x],argTypes:=#[t,t] })
  {e:TypeId} {sz:Nat} {z:Value} {bytes:Nat} (E:ElemN P t e sz z bytes) (base:Nat) (v:Value) (n:Nat) (xs:List Value) (hs:a.eval s=v) (hown:w.ownsRow base e sz v n xs)
  (us:List Value) (g:Nat) (hx:a.eval x=.slice (some ⟨g,0,none⟩) 1 1) (m:Nat × Nat) (hus:us.length=sz) (hg:w.heap[g]?=some (.cells us.toArray e m)) (h1:∀ u∈us,u.oneCell'=true) (h63:n+1<=maxLen) (hbytes:(n+1) * bytes<=140737488355328) (hbase:base<=w.heap.size)
  (h:∀ sa sc w',w'.ownsRow base e sz (.slice sa (n+1) sc) (n+1) (xs ++ us)->w.grownBy w' v.ownBlock->mA w w' v (.slice sa (n+1) sc)->K (a.put o.dst (.slice sa (n+1) sc)) w'):o.wp P a w K Q:=by
 have h5:∀ j,(⟨g,0,none⟩:Addr).add j=⟨g,j,none⟩:=fun j=>by unfold Addr.add;split <;> simp_all
 have h0:qBZ w sz (.slice (some ⟨g,0,none⟩) 1 1) 1 us:=.inr ⟨g,0,1,rfl,by omega,by unfold maxLen;omega,fun i u hi=>by
  obtain⟨hl,e⟩:=List.getElem?_eq_some_iff.1 hi
  have:=zK hg i (by simpa using hl)
  rw[Nat.zero_add,this];simpa using e⟩
 obtain⟨v',w',hr,h2,h3,h4⟩:=run_append_movedR (P:=P) base t o.type E v n xs hown _ 1 us h0 h1 h63 hbytes hbase
 obtain⟨sa,sc,rfl⟩:=sI h2
 unfold Oper.wp execOp
 simp only[ho,resolve,invoke,builtin,Sem.run_bind,Sem.run_pure,Result.andThen_ok,List.map_toArray,List.map_cons,List.map_nil,hs,hx,hr]
 exact h sa sc w' h2 h3 h4
theorem qJ {P:Program} {ops:Array Oper} {w:World} {o:Oper} {a:Act} {K:Act->World->Prop} {Q:Exit->Act->World->Prop} {R:Prop} (hgd:o.guard=none) (s x:Operand) (t:TypeId)
  (ho:o.op=.call { callee:=.builtin .append,args:=#[s,x],argTypes:=#[t,t] })
  {e:TypeId} {sz:Nat} {z:Value} {bytes:Nat} (E:ElemN P t e sz z bytes) (base:Nat) (v:Value) (n:Nat) (xs:List Value) (hs:a.eval s=v) (hown:w.ownsRow base e sz v n xs)
  (us:List Value) (g:Nat) (hx:a.eval x=.slice (some ⟨g,0,none⟩) 1 1) (m:Nat × Nat) (hus:us.length=sz) (hg:w.heap[g]?=some (.cells us.toArray e m)) (h1:∀ u∈us,u.oneCell'=true) (h63:n+1<=maxLen) (hbytes:(n+1) * bytes<=140737488355328) (hbase:base<=w.heap.size)
  (h:∀ sa sc w',w'.ownsRow base e sz (.slice sa (n+1) sc) (n+1) (xs ++ us)->w.grownBy w' v.ownBlock->mA w w' v (.slice sa (n+1) sc)->K (a.put o.dst (.slice sa (n+1) sc)) w'):if Region.wanted o (yielded ops a.tmps)=true then Oper.wp P o a w K Q else R:=by
 have hw:Region.wanted o (yielded ops a.tmps)=true:=by simp[Region.wanted,hgd]
 rw[if_pos hw]
 exact cZ s x t ho E base v n xs hs hown us g hx m hus hg h1 h63 hbytes hbase h
theorem qBV {P:Program} {w:World} {ops:Array Oper} {rest:List Oper} {o:Oper} {a:Act} {Q:Exit->Act->World->Prop} (hgd:o.guard=none) (s x:Operand) (t:TypeId)
  (ho:o.op=.call { callee:=.builtin .append,args:=#[s,x],argTypes:=#[t,t] })
  {e:TypeId} {sz:Nat} {z:Value} {bytes:Nat} (E:ElemN P t e sz z bytes) (base:Nat) (v:Value) (n:Nat) (xs:List Value) (hs:a.eval s=v) (hown:w.ownsRow base e sz v n xs)
  (us:List Value) (hx:a.eval x=.slice (some ⟨w.heap.size,0,none⟩) 1 1) (hus:us.length=sz) (h1:∀ u∈us,u.oneCell'=true) (h63:n+1<=maxLen) (hbytes:(n+1) * bytes<=140737488355328) (hbase:base<=w.heap.size)
  (h:∀ sa sc w',w'.ownsRow base e sz (.slice sa (n+1) sc) (n+1) (xs ++ us)->w.grownBy w' v.ownBlock->wpList P ops Q rest (a.put o.dst (.slice sa (n+1) sc)) w') :
  wpList P ops Q (o :: rest) a (w.alloc (.cells us.toArray e)) :=
 wpList_plain hgd fun _ hK=>cZ s x t ho E base v n xs hs (hown.alloc _) us w.heap.size hx (0,0) hus (heap_alloc_new w _) h1 h63 hbytes (by simp;omega) fun sa sc w' h2 h3 _=>hK _ _ (h sa sc w' h2 (zD (Ga w _ _) h3))
theorem sQ {P:Program} {w:World} {ops:Array Oper} {rest:List Oper} {o:Oper} {a:Act} {Q:Exit->Act->World->Prop} (hgd:o.guard=none) (s x:Operand) (t:TypeId)
  (ho:o.op=.call { callee:=.builtin .append,args:=#[s,x],argTypes:=#[t,t] })
  {e:TypeId} {sz:Nat} {z:Value} {bytes:Nat} (E:ElemN P t e sz z bytes) (base:Nat) (v:Value) (n:Nat) (xs:List Value) (hs:a.eval s=v) (hown:w.ownsRow base e sz v n xs)
  (us:List Value) (hx:a.eval x=.slice (some ⟨w.heap.size,0,none⟩) 1 1) (hus:us.length=sz) (h1:∀ u∈us,u.oneCell'=true) (h63:n+1<=maxLen) (hbytes:(n+1) * bytes<=140737488355328) (hbase:base<=w.heap.size)
  (h:∀ sa sc w',w'.ownsRow base e sz (.slice sa (n+1) sc) (n+1) (xs ++ us)->w.grownBy w' v.ownBlock->mA w w' v (.slice sa (n+1) sc)->wpList P ops Q rest (a.put o.dst (.slice sa (n+1) sc)) w') :
  wpList P ops Q (o :: rest) a (w.alloc (.cells us.toArray e)) :=
 wpList_plain hgd fun _ hK=>cZ s x t ho E base v n xs hs (hown.alloc _) us w.heap.size hx (0,0) hus (heap_alloc_new w _) h1 h63 hbytes (by simp;omega) fun sa sc w' h2 h3 h4=>hK _ _ (h sa sc w' h2 (zD (Ga w _ _) h3) (by
  rcases h4 with h4|⟨h4,h5⟩
  ·exact .inl h4
  ·exact .inr ⟨zD (Ga w _ none) h4,fun k hk=>by have:=h5 k hk;rw[zM]at this;omega⟩))
theorem mU {w:World} {p e:Nat} {x0 x1 x2 x3 x4 x5:Value} (h:w.heap[p]?=some (.cells #[x0,x1,x2,x3,x4,x5] e (0,0))) :
  w.cell? ⟨p,0,none⟩=some x0/\w.cell? ⟨p,1,none⟩=some x1/\w.cell? ⟨p,2,none⟩=some x2/\w.cell? ⟨p,3,none⟩=some x3/\w.cell? ⟨p,4,none⟩=some x4/\w.cell? ⟨p,5,none⟩=some x5:=by
 have c0:=zK h 0 (by simp)
 have c1:=zK h 1 (by simp)
 have c2:=zK h 2 (by simp)
 have c3:=zK h 3 (by simp)
 have c4:=zK h 4 (by simp)
 have c5:=zK h 5 (by simp)
 exact⟨by simpa using c0,by simpa using c1,by simpa using c2,by simpa using c3,by simpa using c4,by simpa using c5⟩
structure BoxS (B:Nat) (X:Nat->Prop) (o ty:Nat) (w0 wk:World) (rs:List RowS) (c:Array Value) (w:World):Prop where
 mem:EMem X w rs
 typ:∀ r∈rs,r.base=B/\r.e≠ty
 box:w.heap[o]?=some (.cells c ty (0,0))
 off:¬ X o
 size:w0.heap.size<=B
 old:w0.heap.size<=o
 base:B<=wk.heap.size
 grown:w0.grownBy w none
 kept:wL X wk w
 wk:wk.heap.size<=w.heap.size
section
variable {B:Nat} {X:Nat->Prop} {o ty:Nat} {w0 wk w:World} {rs:List RowS} {c:Array Value}
theorem BoxS.grow (h:BoxS B X o ty w0 wk rs c w) {w':World} (hg:w.grownBy w' none):BoxS B X o ty w0 wk rs c w' :=
 ⟨h.mem.grow hg,h.typ,zA h.box hg (by simp),h.off,h.size,h.old,h.base,zB h.grown hg (by simp),h.kept.trans (h.mem.keep hg),Nat.le_trans h.wk hg.size⟩
theorem BoxS.set (h:BoxS B X o ty w0 wk rs c w) (f:Nat) (u:Value):BoxS B X o ty w0 wk rs (c.setIfInBounds f u) (w.setCell ⟨o,f,none⟩ u):=by
 have hs:=heap_setCell_same w o f _ _ u h.box
 have hg:=zC w ⟨o,f,none⟩ u
 exact⟨h.mem.far hg (fun r hr=>zS (h.mem.own r hr) h.box (h.typ r hr).2),h.typ,hs,h.off,h.size,h.old,h.base,zB h.grown hg (fun j e=>by have e:o=j:=Oj e;have:=h.old;omega),h.kept.trans (wL.of_grown h.mem.lt hg (fun j e hx=>by have e:o=j:=Oj e;subst e;exact h.off hx)),Nat.le_trans h.wk hg.size⟩
theorem BoxS.own (h:BoxS B X o ty w0 wk rs c w) {r:RowS} (hr:r∈rs):w.ownsRow r.base r.e r.sz r.v r.n r.xs:=h.mem.own r hr
theorem BoxS.nil (h : BoxS B X o ty w0 wk rs c w) {e sz : Nat} (he : e ≠ ty) : BoxS B X o ty w0 wk (rs ++ [⟨B, e, .slice none 0 0, 0, [], sz⟩]) c w :=
 ⟨h.mem.add (zN _ none) (World.ownsRow_nil _ _ _ _) (fun j e => by simp [Value.ownBlock] at e), fun r hr => by
  rcases List.mem_append.1 hr with hr | hr
  ·exact h.typ r hr
  ·rw [List.mem_singleton] at hr; subst hr; exact ⟨rfl, he⟩, h.box, h.off, h.size, h.old, h.base, h.grown, h.kept, h.wk⟩
theorem BoxS.add (h : BoxS B X o ty w0 wk rs c w) {w' : World} (hg : w.grownBy w' none) {e sz n : Nat} {v : Value} {xs : List Value} (ho : w'.ownsRow w.heap.size e sz v n xs) (he : e ≠ ty) : BoxS B X o ty w0 wk (rs ++ [⟨B, e, v, n, xs, sz⟩]) c w' :=
 ⟨h.mem.add hg (wX ho (Nat.le_trans h.base h.wk)) (fun k hk => (ho.lt k hk).1), fun r hr => by
  rcases List.mem_append.1 hr with hr | hr
  ·exact h.typ r hr
  ·rw [List.mem_singleton] at hr; subst hr; exact ⟨rfl, he⟩, zA h.box hg (by simp), h.off, h.size, h.old, h.base, zB h.grown hg (by simp), h.kept.trans (h.mem.keep hg), Nat.le_trans h.wk hg.size⟩
theorem BoxS.push (h:BoxS B X o ty w0 wk rs c w):Many w (dI rs) w rs [] []/\B<=w.heap.size/\∀ (wM:World) (j:Nat) (r:RowS) (v':Value) (n':Nat) (us:List Value),rs[j]?=some r->Many w (dI rs) wM (rs.set j ⟨r.base,r.e,v',n',r.xs ++ us,r.sz⟩) [] []->BoxS B X o ty w0 wk (rs.set j ⟨r.base,r.e,v',n',r.xs ++ us,r.sz⟩) c wM:=by
 refine⟨h.mem.many _ (fun _ h=>h),Nat.le_trans h.base h.wk,fun wM j r v' n' us hr hMM=>?_⟩
 have hf:∀ k,dI rs k->B<=k/\k≠o/\¬ X k:=fun k hk=>by
  obtain⟨r,hr,hk⟩:=hk
  have h0:=h.mem.own r hr
  refine⟨by have:=(h0.lt k hk).1;rw[(h.typ r hr).1]at this;exact this,fun e=>?_,h.mem.offX r hr k hk⟩
  subst e;exact zS h0 h.box (h.typ r hr).2 hk
 refine⟨h.mem.after hMM (fun k hk=>(hf k hk).2.2),fun s hs=>?_,hMM.but.heap h.box (fun hj=>(hf o hj).2.1 rfl),h.off,h.size,h.old,h.base,hMM.but.grown h.grown (fun k hk=>.inr (Nat.le_trans h.size (hf k hk).1)),h.kept.trans (h.mem.keepMany hMM (fun k hk=>(hf k hk).2.2)),Nat.le_trans h.wk hMM.but.size⟩
 rcases List.mem_or_eq_of_mem_set hs with hs|rfl
 ·exact h.typ s hs
 ·exact h.typ r (List.mem_of_getElem? hr)
theorem owns_setB {w:World} {b e n g cap i:Nat} {xs:List Value} (h:w.ownsRow b e 1 (.slice (some ⟨g,0,none⟩) n cap) n xs) (hi:i < n) (u:Value):(w.setCell ⟨g,i,none⟩ u).ownsRow b e 1 (.slice (some ⟨g,0,none⟩) n cap) n (xs.set i u):=by
 refine⟨by rw[List.length_set];exact h.1,?_⟩
 rcases h.2 with ⟨hv,_⟩|⟨g',cap',cur,hv,hb,hg,hnc,hcm,hcs,htake⟩
 ·simp at hv
 ·simp only[Value.slice.injEq,Option.some.injEq,Addr.mk.injEq]at hv
  obtain⟨⟨rfl,_⟩,_,rfl⟩:=hv
  have hs:=heap_setCell_same w g i _ _ u hg
  refine .inr ⟨g,cap,_,rfl,hb,hs,hnc,hcm,by simpa using hcs,?_⟩
  rw[<- htake]
  simp[List.take_set]
theorem BoxS.put (h:BoxS B X o ty w0 wk rs c w) {j g n cap b e i:Nat} {xs:List Value} (hr:rs[j]?=some ⟨b,e,.slice (some ⟨g,0,none⟩) n cap,n,xs,1⟩) (hi:i < n) (u:Value):BoxS B X o ty w0 wk (rs.set j ⟨b,e,.slice (some ⟨g,0,none⟩) n cap,n,xs.set i u,1⟩) c (w.setCell ⟨g,i,none⟩ u):=by
 have h0:=List.mem_of_getElem? hr
 have ho:=h.mem.own _ h0
 have ht:=h.typ _ h0
 simp only at ho ht
 have hg:=zC w ⟨g,i,none⟩ u
 have h7:g≠o:=fun e1=>by subst e1;exact zS ho h.box ht.2 rfl
 obtain⟨h4,h2⟩:=List.getElem?_eq_some_iff.1 hr
 have h3:=List.pairwise_iff_getElem.1 h.mem.apart
 refine⟨⟨fun r hr'=>?_,?_,fun r hr' k hk=>?_,fun k hk=>Nat.lt_of_lt_of_le (h.mem.lt k hk) hg.size⟩,fun r hr'=>?_,zA h.box hg (fun e1=>h7 (Oj e1)),h.off,h.size,h.old,h.base,zB h.grown hg (fun k e1=>?_),h.kept.trans (wL.of_grown h.mem.lt hg (fun k e1 hx=>?_)),Nat.le_trans h.wk hg.size⟩
 ·obtain⟨q,hq,rfl⟩:=List.getElem_of_mem hr'
  rw[List.getElem_set]
  have h1:q < rs.length:=by simpa using hq
  split
  ·exact owns_setB ho hi u
  ·rename_i hne
   refine(h.mem.own _ (List.getElem_mem h1)).kept hg (.inr (fun e1=>?_))
   rcases Nat.lt_or_gt_of_ne hne with hlt|hlt
   ·exact h3 j q h4 h1 hlt g (by rw[h2];rfl) e1
   ·exact h3 q j h1 h4 hlt g e1 (by rw[h2];rfl)
 ·rw[List.pairwise_iff_getElem]
  intro p q hp hq h5
  have h6:p < rs.length:=by simpa using hp
  have h1:q < rs.length:=by simpa using hq
  have:=h3 p q h6 h1 h5
  rw[List.getElem_set,List.getElem_set]
  split <;> split
  ·omega
  ·rename_i e1 e2;subst e1;rw[h2]at this;exact this
  ·rename_i e1 e2;subst e2;rw[h2]at this;exact this
  ·exact this
 ·rcases List.mem_or_eq_of_mem_set hr' with hr'|rfl
  ·exact h.mem.offX r hr' k hk
  ·exact h.mem.offX _ h0 k hk
 ·rcases List.mem_or_eq_of_mem_set hr' with hr'|rfl
  ·exact h.typ r hr'
  ·exact ht
 ·have e1:g=k:=Oj e1
  have:=(ho.lt g rfl).1
  have:=h.size
  omega
 ·have e1:g=k:=Oj e1
  subst e1
  exact h.mem.offX _ h0 g rfl hx
end
end Go.Proofs.Ytjfdomfendbhfaa
