/- Part 24 of the proof. -/
import Derived.Test.YtcoimliafiammaaGreatQa23
import Derived.Deep.RegionLaw
import Derived.BigQuiet
import Derived.Deep.DeepCutAuto
import Derived.Deep.CutBlock
import Derived.Shelf.Vars
set_option linter.unusedVariables false
set_option linter.unusedSimpArgs false
set_option maxRecDepth 100000
set_option maxHeartbeats 16000000
namespace Go.Proofs.YtcoimliafiammaaGreat
open Go.RowKit
theorem qPP (B:Nat)(w:World)(v:Value)(d:DfaV)(n k q:Nat)(s:ByteArray)(hB:B<=w.heap.size)(h:tM B w v d)(hd:VD d n k)(hq:q<n)(hs:zU s (k:Int)=true):Calls Tryz.prog 40 #[v,.int .i64 (q:Int),.string s] w fun e w'=>e=.returned (.int .i64 ((run d q (zI s):Nat):Int))/\w.grownBy w' none:=by
 have h3:=h;obtain⟨fb,fo,fc,b,off,cap,RB,RO,RC,rfl,h6⟩:=h.at hd;have b9:=hd.n1;have c5:=hd.k6;have c6:=hd.k1;have c7:=h6.cap.1;have h4:=h6.cap.2;have a5:cap<=9223372036854775807:=by unfold maxLen at h4;omega
 obtain⟨S,hS⟩:=Nm (st0 d);have H8:dAgg k (st0 d) fb fo fc b off cap n=.agg #[.int .i64 (k:Int),.int .i64 (S:Int),.slice (some ⟨fb,fo,none⟩) n fc,.slice (some ⟨b,off,none⟩) n cap]:=by rw[hS];rfl
 rw[H8]at h3⊢;obtain⟨wA,H5⟩:=Nm (w.alloc (.cells #[.int .i64 (k:Int),.int .i64 (S:Int),.slice (some ⟨fb,fo,none⟩) n fc,.slice (some ⟨b,off,none⟩) n cap] 30));have H4:=Ga w (.cells #[.int .i64 (k:Int),.int .i64 (S:Int),.slice (some ⟨fb,fo,none⟩) n fc,.slice (some ⟨b,off,none⟩) n cap] 30) none;have h2:=heap_alloc_new w (.cells #[.int .i64 (k:Int),.int .i64 (S:Int),.slice (some ⟨fb,fo,none⟩) n fc,.slice (some ⟨b,off,none⟩) n cap] 30);rw[<-H5]at h2 H4;obtain⟨P,hP⟩:=Nm w.heap.size;rw[<-hP]at h2;obtain⟨c0,c1,c2,c3⟩:=zE h2;have c9:=zM h2;have d4:B<=wA.heap.size:=by omega
 obtain⟨b3,b4,a4,b2,HD⟩:=K5 hP h2 H4 H5 hd;have b5:Hid (∀W:World,w.grownBy W none->DAt B W d n k fb fo fc b off cap RB RO RC):=Kh (fun W hg=>h6.kept hg (by simp));have HW:=Kh hs;have H6:=Kh (uI hs);have b7:=H6.out.2.2;have b8:(q:Int)<n:=by omega
 clear h2 H4 H5 h6 hd h h3 H8 h4 hS hP hs;go_enter Tryz.func40,Tryz.ntmps40;go_upto_region 1 with fail;rw[<-b2.out,<-b3.out];go_wp2_with fail;refine(oU s (k:Int) wA (by unfold maxLen;omega)).mono ?_;rintro e w2 ⟨rfl,rfl⟩;rw[HW.out];go_wp2_with fail
 go_loopg [1,7] s.size (fun gh a1 i wr=>∃j:Nat,gh+j=s.size/\i=.int .i64 j/\a1=.int .i64 ((run d q ((zI s).take j):Nat):Int)/\wA.grownBy wr none)
 case atStart=>exact⟨0,rfl,rfl,rfl,zH _ _⟩
 clear c0 c1 c2 c3;obtain⟨j,a2,rfl,rfl,h5⟩:=hrel;have H7:=Kh a2;have a3:=Kh h5;obtain⟨d0,d1,d2,d3⟩:=zE (zB b4.out h5);clear a2;by_cases hj:j<s.size
 ·have a7:(j:Int)<s.size:=by omega
  have h7:=aF HD.out ((zI s).take j) hq (fun a ha=>H6.out.1 a (List.mem_of_mem_take ha));have h8:=Kh (qUP (d:=d) (q:=q) (l:=zI s) (j:=j) (by rw[yM];exact hj));obtain⟨R,hR⟩:=Nm (run d q ((zI s).take j));rw[<-hR]at h7 h8⊢;have b1:(R:Int)<n:=(by omega);have h0:=b5.out wr (zA a4.out h5);have chd:=h0.hd R h7;have H2:=h0.rcap R h7;have H1:=H2.1;have H0:RC R<=9223372036854775807:=by have:=H2.2;unfold maxLen at this;omega
  obtain⟨b0,a0,c8,b6,c4,a9,H9⟩:=qIO H6.out.2.1 hj;have cel:=h0.el R a0 h7 a9;have a8:(a0:Int)<k:=(by omega);rw[H9]at h8;obtain⟨rb,H3⟩:=Nm (RB R);obtain⟨ro,h9⟩:=Nm (RO R);obtain⟨rc,h1⟩:=Nm (RC R);rw[<-H3,<-h9,<-h1]at chd;rw[<-H3,<-h9]at cel;rw[<-h1]at H1 H0;obtain⟨y,hy⟩:=Nm (nx d R a0);rw[<-hy]at cel h8;clear h0 H2 H9 H3 h9 h1 hy hR h5;go_wp2_with fail
  go_region
  all_goals (try go_frame)
  all_goals go_wp2
  all_goals
   go_roundg (s.size-(j+1))
   case measure=>have:=H7.out;omega
   exact⟨j+1,by have:=H7.out;omega,by go_num,by rw[h8.out],zA a3.out (zN wr none)⟩
 have a6:j=s.size:=by have:=H7.out;omega
 have a7:¬(j:Int)<s.size:=(by omega);have HJ:Hid ((zI s).take j=zI s):=Kh (List.take_of_length_le (by rw[yM];omega));rw[HJ.out];clear a6;go_wp2;go_ret;exact⟨rfl,zA a4.out a3.out⟩
theorem qDR (B:Nat)(w:World)(v:Value)(d:DfaV)(n k:Nat)(s:ByteArray)(hB:B<=w.heap.size)(h:tM B w v d)(hd:VD d n k)(hs:zU s (k:Int)=true):Calls Tryz.prog 16 #[v,.string s] w fun e w'=>e=.returned (.bool (acc d (st0 d) (zI s)))/\w.grownBy w' none:=by
 have h0:=h;obtain⟨fb,fo,fc,b,off,cap,RB,RO,RC,rfl,h4⟩:=h.at hd;have h7:=oJ hd;have a2:=h4.fcap.1;have h2:=h4.fcap.2;have H4:fc<=9223372036854775807:=by unfold maxLen at h2;omega
 have H1:=Kh (aF hd (zI s) h7 (uI hs).1);obtain⟨S,hS⟩:=Nm (st0 d);have h8:dAgg k (st0 d) fb fo fc b off cap n=.agg #[.int .i64 (k:Int),.int .i64 (S:Int),.slice (some ⟨fb,fo,none⟩) n fc,.slice (some ⟨b,off,none⟩) n cap]:=by rw[hS];rfl
 rw[h8]at h0⊢;rw[<-hS]at h7 H1⊢;obtain⟨wA,h6⟩:=Nm (w.alloc (.cells #[.int .i64 (k:Int),.int .i64 (S:Int),.slice (some ⟨fb,fo,none⟩) n fc,.slice (some ⟨b,off,none⟩) n cap] 30));have h3:=Ga w (.cells #[.int .i64 (k:Int),.int .i64 (S:Int),.slice (some ⟨fb,fo,none⟩) n fc,.slice (some ⟨b,off,none⟩) n cap] 30) none;have h1:=heap_alloc_new w (.cells #[.int .i64 (k:Int),.int .i64 (S:Int),.slice (some ⟨fb,fo,none⟩) n fc,.slice (some ⟨b,off,none⟩) n cap] 30);rw[<-h6]at h1 h3;obtain⟨P,hP⟩:=Nm w.heap.size;rw[<-hP]at h1;obtain⟨c0,c1,c2,c3⟩:=zE h1;have a3:=zM h1;have H7:B<=wA.heap.size:=by omega
 obtain⟨H9,H3,a0,H8⟩:=K4 hP h1 h3 h6;have a1:Hid (∀W:World,w.grownBy W none->DAt B W d n k fb fo fc b off cap RB RO RC):=Kh (fun W hg=>h4.kept hg (by simp));have H0:=Kh (qPP B wA _ d n k S s H7 (h0.kept h3 (by simp)) hd h7 hs);clear h1 h3 h6 h4 hd h h0 h8 h2 hS hP hs;go_enter Tryz.func16,Tryz.ntmps16;go_upto_region 1 with fail;rw[<-H8.out,<-H9.out];go_wp2_with fail;refine H0.out.mono ?_;rintro e w1 ⟨rfl,h5⟩;have H2:=Kh (zA a0.out h5);obtain⟨d0,d1,d2,d3⟩:=zE (zB H3.out h5);obtain⟨R,hR⟩:=Nm (run d S (zI s));have H6:R<n:=by rw[hR];exact H1.out
 have H5:(R:Int)<n:=by omega
 have HA:Hid (acc d S (zI s)=d.final.getD R false):=Kh (by rw[hR];rfl);rw[<-hR];have cfin:=(a1.out w1 H2.out).fin H6;obtain⟨bf,h9⟩:=Nm (d.final.getD R false);rw[<-h9]at cfin HA;clear h5 H0 c0 c1 c2 c3 H3 hR h9;go_wp2;go_ret;exact⟨zW HA.out.symm,H2.out⟩
theorem Row.found {B:Nat}{w:World}{v:Value}{xs:List Value}(h:Row B w v xs)(hx:0<xs.length):∃b off cap,v=.slice (some ⟨b,off,none⟩) xs.length cap/\xs.length<=cap/\cap<=maxLen/\uQ w b off xs:=by
 rcases h with ⟨a,c,rfl,rfl⟩|⟨b,off,cap,rfl,_,h1,h2,h3⟩
 ·simp at hx
 exact⟨b,off,cap,rfl,h1,h2,h3⟩
theorem qDI (B1 B2:Nat)(v1 v2:Value)(ls:List (List Int))(w:World)(h1:Row B1 w v1 (strs ls))(h2:Row B2 w v2 (strs ls))(hl:ls.length<=9223372036854775807):Calls Tryz.prog 33 #[v1,v2] w fun e w'=>e=.returned (.bool true)/\∃m,w'=w.drewN m:=by
 by_cases h0:0<ls.length
 ·obtain⟨b1,o1,c1,rfl,h7,h5,r1⟩:=h1.found (by simpa [strs] using h0)
  obtain⟨b2,o2,c2,rfl,h6,h4,r2⟩:=h2.found (by simpa [strs] using h0);rw[show (strs ls).length=ls.length by simp[strs]]at *;have hn:((ls.length:Int) != ls.length)=false:=by simp
  clear h1 h2;go_enter Tryz.func33,Tryz.ntmps33;go_wp2
  go_loopw [13] (fun i wr=>∃k m:Nat,i=.int .i64 k/\k<=ls.length/\wr=w.drewN m) (fun i _=>ls.length-(intOf i).toNat)
  case atStart=>exact⟨0,0,rfl,Nat.zero_le _,rfl⟩
  obtain⟨k,m,rfl,hk,rfl⟩:=hrel;by_cases hlt:k<ls.length
  ·have q1:=r1.map k hlt
   have q2:=r2.map k hlt;have h3:(k:Int)<ls.length:=(by omega);go_wp2
   go_quiet (fail)
   go_wp2;go_roundw
   case rel=>exact⟨k+1,_,by go_num,by omega,rfl⟩
   simp[intOf];omega
  go_wp2;go_ret;exact⟨rfl,m,rfl⟩
 have hz:ls=[]:=List.eq_nil_of_length_eq_zero (by omega);subst hz;obtain⟨a1,c1,rfl⟩:=h1.shape;obtain⟨a2,c2,rfl⟩:=h2.shape;rw[show (strs []).length=0 by rfl]at *;clear h1 h2;go_enter Tryz.func33,Tryz.ntmps33;go_wp2;refine wp_loop_rounds 1 ?_;rw[rounds_succ];go_wp2;go_ret;exact⟨rfl,0,rfl⟩
theorem qGT (B1 B2:Nat)(v1 v2:Value)(s1 s2:List Value)(ps:List (List (List Int)))(w:World)(h1:Row B1 w v1 s1)(h2:Row B2 w v2 s2)(k1:s1.length=ps.length/\∀i (h:i<s1.length) (h':i<ps.length),Row B1 w s1[i] (strs ps[i]))(k2:s2.length=ps.length/\∀i (h:i<s2.length) (h':i<ps.length),Row B2 w s2[i] (strs ps[i]))(hl:ps.length<=9223372036854775807)(a9:∀p∈ps,p.length<=9223372036854775807):Calls Tryz.prog 12 #[v1,v2] w fun e w'=>e=.returned (.bool true)/\∃m,w'=w.drewN m:=by
 have e1:=k1.1;have e2:=k2.1;by_cases h0:0<ps.length
 ·obtain⟨b1,o1,c1,rfl,h6,h8,r1⟩:=h1.found (by omega)
  obtain⟨b2,o2,c2,rfl,h5,h7,r2⟩:=h2.found (by omega);rw[e1]at h6⊢;rw[e2]at h5⊢;have hn:((ps.length:Int) != ps.length)=false:=by simp
  have E1:=Kh e1;have E2:=Kh e2;clear h1 h2 e1 e2;go_enter Tryz.func12,Tryz.ntmps12;go_wp2
  go_loopw [13] (fun i wr=>∃k m:Nat,i=.int .i64 k/\k<=ps.length/\wr=w.drewN m) (fun i _=>ps.length-(intOf i).toNat)
  case atStart=>exact⟨0,0,rfl,Nat.zero_le _,rfl⟩
  obtain⟨k,m,rfl,hk,rfl⟩:=hrel;by_cases hlt:k<ps.length
  ·have i1:k<s1.length:=by rw[E1.out];exact hlt
   have i2:k<s2.length:=(by rw[E2.out];exact hlt);have q1:=r1.2 k i1;have q2:=r2.2 k i2;have t1:=fun n=>((k1.2 k i1 hlt).of_heap (w':=w.drewN n) rfl);have t2:=fun n=>((k2.2 k i2 hlt).of_heap (w':=w.drewN n) rfl);obtain⟨x1,y1,z1⟩:=(k1.2 k i1 hlt).shape;obtain⟨x2,y2,z2⟩:=(k2.2 k i2 hlt).shape;have h4:(k:Int)<ps.length:=(by omega);have h3:=a9 ps[k] (List.getElem_mem hlt);rw[z1]at q1 t1;rw[z2]at q2 t2;have T1:=Kh t1;have T2:=Kh t2;clear t1 t2 z1 z2;go_wp2
   go_quiet ((go_at_call 33;first|exact Calls.quiet_of (qDI _ _ _ _ _ _ (T1.out _) (T2.out _) h3)|exact qPZ (qDI _ _ _ _ _ _ (T1.out _) (T2.out _) h3)))
   go_wp2;go_roundw
   case rel=>exact⟨k+1,_,by go_num,by omega,rfl⟩
   simp[intOf];omega
  go_wp2;go_ret;exact⟨rfl,m,rfl⟩
 have hz:ps=[]:=List.eq_nil_of_length_eq_zero (by omega);subst hz;have z1:s1=[]:=List.eq_nil_of_length_eq_zero e1;have z2:s2=[]:=List.eq_nil_of_length_eq_zero e2;subst z1 z2;obtain⟨a1,c1,rfl⟩:=h1.shape;obtain⟨a2,c2,rfl⟩:=h2.shape;rw[show ([]:List Value).length=0 by rfl]at *;clear h1 h2 k1 k2 e1 e2;go_enter Tryz.func12,Tryz.ntmps12;go_wp2;refine wp_loop_rounds 1 ?_;rw[rounds_succ];go_wp2;go_ret;exact⟨rfl,0,rfl⟩
theorem qPM (B1 B2:Nat)(w:World)(v1 v2:Value)(L:List (List (List Int)))(h1:vE B1 w v1 (famB L))(h2:vE B2 w v2 (famB L))(hl:L.length<=9223372036854775807)(a9:∀p∈L,p.length<=9223372036854775807):Calls Tryz.prog 12 #[v1,v2] w fun e w'=>e=.returned (.bool true)/\∃m,w'=w.drewN m:=by
 obtain⟨s1,a1,a2,a3⟩:=h1;obtain⟨s2,b1,b2,b3⟩:=h2;rw[wJ]at a2 b2;have e:∀i (hi:i<L.length) (h:i<(famB L).length),txtV (famB L)[i]=strs L[i]:=fun i hi h=>by simp[famB,txtV,strs]
 exact qGT B1 B2 v1 v2 s1 s2 L w a1 b1 ⟨a2,fun i h h'=>by rw[<-e i h' (by rw[wJ];exact h')];exact(a3 i h _).1⟩ ⟨b2,fun i h h'=>by rw[<-e i h' (by rw[wJ];exact h')];exact(b3 i h _).1⟩ hl a9
structure WdI (letters most:Nat)(l:List (List Nat))(q a:Nat):Prop where
 nd:l.Nodup
 len:∀u∈l,u.length<=most
 ok:∀u∈l,yO letters u
 old:∀u∈l,u=[]\/∃j b,(j<q\/(j=q/\b<a))/\l[j]?=some (u.take (u.length-1))/\u=u.take (u.length-1)++[b]
theorem WdI.start (letters most:Nat):WdI letters most [[]] 0 0 :=
 ⟨by simp,fun u hu=>by simp at hu;subst hu;simp,fun u hu=>by simp at hu;subst hu;intro x hx;simp at hx,fun u hu=>by simp at hu;exact .inl hu⟩
theorem WdI.next {letters most q a:Nat}{l:List (List Nat)}(h:WdI letters most l q a):WdI letters most l (q+1) 0 :=
 ⟨h.nd,h.len,h.ok,fun u hu=>by
  rcases h.old u hu with e|⟨j,b,h1,h2⟩
  ·exact .inl e
  ·exact .inr ⟨j,b,by omega,h2⟩⟩
theorem WdI.push {letters most q a:Nat}{l:List (List Nat)}(h:WdI letters most l q a){u:List Nat}(hu:l[q]?=some u)(hl:u.length<most)(ha:a<letters):WdI letters most (l++[u++[a]]) q (a+1):=by
 have hq:q<l.length:=by
  rcases Nat.lt_or_ge q l.length with h|h
  ·exact h
  rw[List.getElem?_eq_none h]at hu;cases hu
 have hm:u∈l:=List.mem_of_getElem? hu
 have h5:u++[a] ∉ l:=fun hmem=>by
  rcases h.old _ hmem with e|⟨j,b,h1,h2,h3⟩
  ·simp at e
  have e:(u++[a]).take ((u++[a]).length-1)=u:=by simp
  rw[e]at h2 h3;have h4:=List.append_inj_right' h3 rfl;simp at h4
  have hj:j=q:=by
   have h0:j<l.length:=by
    rcases Nat.lt_or_ge j l.length with h|h
    ·exact h
    rw[List.getElem?_eq_none h]at h2;cases h2
   rw[List.getElem?_eq_getElem h0]at h2;rw[List.getElem?_eq_getElem hq]at hu;have:l[j]=l[q]:=by rw[Oj h2,Oj hu]
   exact(List.getElem_inj h.nd).1 this
  omega
 refine⟨?_,fun x hx=>?_,fun x hx=>?_,fun x hx=>?_⟩
 ·rw[List.nodup_append]
  exact⟨h.nd,by simp,fun x hx y hy e=>by simp at hy;subst hy;subst e;exact h5 hx⟩
 ·rcases List.mem_append.1 hx with hx|hx
  ·exact h.len x hx
  simp at hx;subst hx;simp;omega
 ·rcases List.mem_append.1 hx with hx|hx
  ·exact h.ok x hx
  simp at hx;subst hx;intro y hy;rcases List.mem_append.1 hy with hy|hy
  ·exact h.ok u hm y hy
  simp at hy;omega
 rcases List.mem_append.1 hx with hx|hx
 ·rcases h.old x hx with e|⟨j,b,h1,h2,h3⟩
  ·exact .inl e
  refine .inr ⟨j,b,by omega,?_,h3⟩
  have h0:j<l.length:=by
   rcases Nat.lt_or_ge j l.length with h|h
   ·exact h
   rw[List.getElem?_eq_none h]at h2;cases h2
  rw[List.getElem?_append_left h0];exact h2
 simp at hx;subst hx;refine .inr ⟨q,a,by omega,?_,by simp⟩;rw[List.getElem?_append_left hq];simpa using hu
theorem qPB (a b:List Int):strOfNums a++strOfNums b=strOfNums (a++b):=by
 apply ByteArray.ext;simp[strOfNums]
def qIG (u:List Nat):List Bool:=List.replicate (6-u.length) false++[true]++u.map (fun x=>decide (x=1))
theorem qSV {u:List Nat}(h:u.length<=6):(qIG u).length=7:=by simp[qIG];omega
theorem qPU:∀ {m n:Nat} {x y:List Bool},List.replicate m false++true::x=List.replicate n false++true::y->x=y
 | 0,0,x,y,h=>by simpa using h
 | 0,n+1,x,y,h=>by simp[List.replicate_succ]at h
 | m+1,0,x,y,h=>by simp[List.replicate_succ]at h
 | m+1,n+1,x,y,h=>by
  simp only[List.replicate_succ,List.cons_append,List.cons.injEq,true_and]at h
  exact qPU h
theorem qLE:∀ {u v:List Nat},(∀x∈u,x<2)->(∀x∈v,x<2)->u.map (fun x=>decide (x=1))=v.map (fun x=>decide (x=1))->u=v
 | [],[],_,_,_=>rfl
 | [],y::v,_,_,h=>by simp at h
 | x::u,[],_,_,h=>by simp at h
 | x::u,y::v,hu,hv,h=>by
  simp only[List.map_cons,List.cons.injEq,decide_eq_decide]at h
  have h1:=hu x (by simp);have h2:=hv y (by simp)
  have h3:=h.1
  rw[qLE (fun z hz=>hu z (List.mem_cons_of_mem _ hz)) (fun z hz=>hv z (List.mem_cons_of_mem _ hz)) h.2,show x=y by omega]
theorem qSW {u v:List Nat}(hu:∀x∈u,x<2)(hv:∀x∈v,x<2)(h:qIG u=qIG v):u=v:=by
 unfold qIG at h;rw[List.append_assoc,List.append_assoc]at h;exact qLE hu hv (qPU h)
theorem WdI.few {letters most q a:Nat}{l:List (List Nat)}(h:WdI letters most l q a)(h2:letters<=2)(h5:most<=6):l.length<=128:=by
 have h1:∀u∈l,∀x∈u,x<2:=fun u hu x hx=>by have:=h.ok u hu x hx;omega
 have h0:∀u∈l,u.length<=6:=fun u hu=>by have:=h.len u hu;omega
 have hn:(l.map qIG).Nodup:=by
  rw[List.nodup_iff_pairwise_ne,List.pairwise_map];refine h.nd.imp_of_mem fun {x y} hx hy hne e=>hne (qSW (h1 x hx) (h1 y hy) e)
 have:=iP 7 (l.map qIG) hn (fun x hx=>by
  obtain⟨u,hu,rfl⟩:=List.mem_map.1 hx
  exact qSV (h0 u hu))
 simpa using this
theorem qLO (w:World)(letters most:Nat)(h1:1<=letters)(h2:letters<=2)(h4:most<=6):Calls Tryz.prog 14 #[.int .i64 (letters:Int),.int .i64 (most:Int)] w fun e w'=>∃ws sa sc,e=.returned (.slice sa (ws:List (List Nat)).length sc)/\w'.ownsRow w.heap.size 9 1 (.slice sa ws.length sc) ws.length (oV ws)/\w.grownBy w' none/\WdI letters most ws ws.length 0:=by
 obtain⟨P,hP⟩:=Nm w.heap.size;have a5:=Kh hP;go_enter Tryz.func14,Tryz.ntmps14;go_upto_region 2 with fail;have hb:=heap_alloc_new w (.cells #[.string ⟨#[]⟩] 9);have hg:=Ga w (.cells #[.string ⟨#[]⟩] 9) none;have ho:(w.alloc (.cells #[.string ⟨#[]⟩] 9)).ownsRow w.heap.size 9 1 (.slice (some ⟨w.heap.size,0,none⟩) 1 1) 1 (oV [[]]):=qJV hb (Nat.le_refl _) rfl (by unfold maxLen;omega);have b3:=zL w (.cells #[.string ⟨#[]⟩] 9);rw[<-hP]at ho hb b3⊢;have HO:=Kh ho;have HG:=Kh hg;clear ho hb hg b3 hP;obtain⟨w1,b2⟩:=Nm (w.alloc (.cells #[.string ⟨#[]⟩] 9));rw[<-b2]at HO HG⊢;clear b2;go_wp2
 go_loopg [5,6,7] 129 (fun gh lv i av wr=>∃(q:Nat) (l:List (List Nat)) (sa:Option Addr) (sc:Nat),gh+q=129/\i=.int .i64 q/\lv=.slice sa l.length sc/\wr.ownsRow P 9 1 (.slice sa l.length sc) l.length (oV l)/\w.grownBy wr none/\WdI letters most l q 0/\q<=l.length)
 case atStart=>exact⟨0,[[]],some ⟨P,0,none⟩,1,rfl,rfl,rfl,HO.out,HG.out,WdI.start _ _,Nat.zero_le _⟩
 obtain⟨q,l,sa,sc,hg,rfl,rfl,h0,H2,H1,c3⟩:=hrel;obtain⟨m,hm⟩:=Nm l.length;have f3:=H1.few h2 h4;have HM:=Kh hm;rw[<-hm]at h0 f3 c3⊢;obtain⟨H7,a6,a7,a4⟩:=K4 hg h0 H2 H1;clear hg h0 H2 hm HO HG H1;by_cases hq:q<m
 ·have c4:(q:Int)<m:=by omega
  obtain⟨U,hU⟩:=Nm (l.getD q []);have d6:U.length<=most:=by rw[hU];exact a4.out.len _ (mW (by have:=HM.out;omega))
  have HU:Hid (l[q]?=some U):=Kh (by rw[hU,List.getElem?_eq_getElem (by have:=HM.out;omega),zG (by have:=HM.out;omega)]);clear hU;obtain⟨X,hX⟩:=Nm (strOfNums (lets U));have a9:X.size=U.length:=by rw[hX,strOfNums_size];simp[lets]
  have HX:=Kh hX;have a3:=Kh a9;obtain⟨wo,b0⟩:=Nm wr;rw[<-b0]at a6 a7⊢;clear b0 wr;go_wp2
  go_loopg [5,7] letters (fun gh lv av wr=>∃(a:Nat) (l2:List (List Nat)) (sb:Option Addr) (sd:Nat),gh+a=letters/\av=.int .i64 a/\lv=.slice sb (m+a) sd/\wr.ownsRow P 9 1 (.slice sb (m+a) sd) (m+a) (oV l2)/\w.grownBy wr none/\(most<=U.length->a=0)/\WdI letters most l2 q a/\l2[q]?=some U/\l2.length=m+a)
  case atStart=>exact⟨0,l,sa,sc,rfl,rfl,rfl,a6.out,a7.out,fun _=>rfl,a4.out,HU.out,by have:=HM.out;omega⟩
  obtain⟨a,l2,sb,sd,hg,rfl,rfl,h0,H2,hz,H1,a1,a0⟩:=hrel;obtain⟨kb,rfl,e1,b6,H5⟩:=yH h0 (by omega);have h3:=H5.strL q (by rw[a0];omega);rw[show l2.getD q []=U by rw[List.getD_eq_getElem?_getD,a1];rfl,<-HX.out]at h3;obtain⟨H0,b8,h8⟩:=K3 H1 a1 a0;clear H1 a1 a0;have d7:(q:Int)<(m:Int)+(a:Int):=(by omega);have c5:q<m+a:=(by omega);obtain⟨a8,h5,h6,HZ⟩:=K4 hg h0 H2 hz;have c6:sd<=9223372036854775807:=by unfold maxLen at b6;omega
  clear hg h0 H2 hz H5 b6 hX a9;by_cases ha:a<letters
  ·have e3:(a:Int)<letters:=by omega
   by_cases hu:X.size<most
   ·have c1:(X.size:Int)<most:=by omega
    have e4:IntKind.i64.wrap (97+(a:Int))=97+(a:Int):=IntWalk.i64_in _ (by omega);have e2:IntKind.u8.wrap (97+(a:Int))=97+(a:Int):=IntWalk.u8_in _ (by omega);obtain⟨Y,hY⟩:=Nm (strOfNums [97+(a:Int)]);have d9:∀(W:World) (g:Nat),W.cell? ⟨g,0,none⟩=some (.int .u8 (97+(a:Int)))->(convert 73 9 (.slice (some ⟨g,0,none⟩) 1 1)).run Tryz.prog W=.ok (.string Y) W:=fun W g h=>by rw[hY];exact mI 73 5 Tryz.underlying73 Tryz.underlying5 9 Tryz.underlying9 h
    have e0:∀W:World,(Op.stringOp .add X Y).run Tryz.prog W=.ok (.string (X++Y)) W:=fun W=>run_string_add_sum W X Y (by
     rw[hY,strOfNums_size];simp;omega)
    have d0:Hid (X++Y=strOfNums (lets (U++[a]))):=Kh (by rw[HX.out,hY,qPB];simp[lets]);clear hY;obtain⟨w5,H8⟩:=Nm wr.drew;have H6:wr.grownBy w5 none:=(by rw[H8];exact zN wr none);have d2:=Kh H8;have b7:=Kh (zX h5.out H6 (by simp));have c0:=Kh (zA h6.out H6);have C:=Kh (xG h3 H6);clear H8 H6 h5 h6;go_upto_region 8 with fail;clear h3;refine wp_region_noPanic ?_;refine xE (G:=vU 10 (fun _=>True) (fun W=>W.cell? ⟨kb,q,none⟩=some (.string X))) (by kernel_rfl) ?_;rw[<-d2.out];refine yG 0 ?_;refine yG 1 ?_;refine yG 2 ?_;refine yG 3 ?_;refine kQ 4 ?_;refine yG 5 ?_;refine yG 6 ?_;refine yG 7 ?_;refine oneG (i:=8) (by kernel_rfl) rfl (fun K hK=>?_);go_simp;have h9:=heap_alloc_new w5 (.cells #[.int .u8 (97+(a:Int))] 5);have H4:=Ga w5 (.cells #[.int .u8 (97+(a:Int))] 5) none;obtain⟨g6,H3⟩:=Nm w5.heap.size;obtain⟨w6,b1⟩:=Nm (w5.alloc (.cells #[.int .u8 (97+(a:Int))] 5));rw[<-H3]at h9⊢;rw[<-b1]at h9 H4⊢;have c7:=zJ h9 0;simp only[List.getElem_toArray,List.getElem_cons_zero]at c7;have d4:=Kh (zX b7.out H4 (by simp));have b9:=Kh (zA c0.out H4);have C6:=Kh (xG C.out H4);refine hK.out _ _ ⟨trivial,fun _=>C6.out⟩ ?_;clear hK K h9 H4 H3 b1 b7 c0 C
    try simp only[Act.put,sPa,sPb,sPc]
    refine oneG (i:=9) (by kernel_rfl) rfl (fun K hK=>?_);go_simp;refine hK.out _ _ ⟨trivial,fun _=>C6.out⟩ ?_;clear hK K
    try simp only[Act.put,sPa,sPb,sPc]
    refine oneG (i:=10) (by kernel_rfl) rfl (fun K hK=>?_);go_simp;refine hK.out _ _ ⟨trivial,fun h=>by simp at h⟩ ?_;clear hK K
    try simp only[Act.put,sPa,sPb,sPc]
    refine oneG (i:=11) (by kernel_rfl) rfl (fun K hK=>?_);go_simp;have h9:=heap_alloc_new w6 (.cells #[.string (X++Y)] 9);have a2:=Ga w6 (.cells #[.string (X++Y)] 9) none;have H9:=zX d4.out a2 (by simp);refine hK.out _ _ ⟨trivial,fun h=>by simp at h⟩ ?_;clear hK K
    try simp only[Act.put,sPa,sPb,sPc]
    have c2:P<=w6.heap.size:=by have:=b9.out.size;have:=a5.out;omega
    refine oneG (i:=12) (by kernel_rfl) rfl (fun K hK=>?_);refine oI rfl (.tmp 29) (.tmp 40) 46 rfl jB P _ _ _ rfl H9 _ _ _ rfl h9 rfl ?g1 ?g2 ?g3 ?_
    case g1=>unfold maxLen;omega
    case g2=>omega
    case g3=>rw[zL];omega
    intro sa' sc' w8 h7 b5;refine hK.out _ _ ⟨trivial,fun h=>by simp at h⟩ ?_;clear hK K
    try simp only[Act.put,sPa,sPb,sPc]
    refine oneG (i:=13) (by kernel_rfl) rfl (fun K hK=>?_);go_simp;refine hK.out _ _ ⟨trivial,fun h=>by simp at h⟩ ?_;clear hK K
    try simp only[Act.put,sPa,sPb,sPc]
    refine nO (by kernel_rfl) ?_ _;refine NoPanic.normal ?_;have d3:=Kh h7;have d5:=Kh (zA (zA b9.out a2) b5 (fun k e=>by have:=(H9.lt k e).1;have:=a5.out;omega));clear h7 b5 a2 H9 h9;go_wp2;go_roundg (letters-(a+1))
    case measure=>have:=a8.out;omega
    refine⟨a+1,l2++[U++[a]],sa',sc',by have:=a8.out;omega,by go_num,by rw[Nat.add_assoc],?_,d5.out,by have:=a3.out;omega,H0.out.push b8.out (by have:=a3.out;omega) ha,?_,by rw[List.length_append,h8.out];rfl⟩
    ·rw[show oV (l2++[U++[a]])=oV l2++[.string (X++Y)] by rw[d0.out];simp[oV],<-Nat.add_assoc]
     exact d3.out
    rw[List.getElem?_append_left (by rw[h8.out];omega)];exact b8.out
   have c1:¬(X.size:Int)<most:=(by omega);have c9:a=0:=HZ.out (by have:=a3.out;omega);subst c9;go_wp2;go_roundg (129-(q+1))
   case measure=>have:=H7.out;omega
   refine⟨q+1,l2,some ⟨kb,0,none⟩,sd,by have:=H7.out;omega,by go_num,by rw[h8.out];first|done|rfl,?_,h6.out,H0.out.next,by rw[h8.out];omega⟩;have:=h5.out;rw[h8.out];exact this
  have c8:a=letters:=by have:=a8.out;omega
  subst c8
  have d8:U.length<most:=by
   rcases Nat.lt_or_ge U.length most with h|h
   ·exact h
   have:=HZ.out h;omega
  go_wp2;go_roundg (129-(q+1))
  case measure=>have:=H7.out;omega
  refine⟨q+1,l2,some ⟨kb,0,none⟩,sd,by have:=H7.out;omega,by go_num,by rw[h8.out];first|done|rfl,?_,h6.out,H0.out.next,by rw[h8.out];omega⟩;rw[h8.out];exact h5.out
 have c4:¬(q:Int)<m:=by omega
 have b4:q=l.length:=by have:=HM.out;omega
 have d1:Hid (WdI letters most l l.length 0):=Kh (by have:=a4.out;rwa [b4]at this);clear b4;go_wp2;go_ret;refine⟨l,sa,sc,?_,?_,a7.out,d1.out⟩
 ·rw[<-HM.out];rfl
 rw[<-HM.out,<-a5.out];exact a6.out
theorem xAL {g:DiaV}{s:ByteArray}(h:diaE g 6≠0):diaH g s=false:=by
 unfold diaH;rw[show decide (diaE g 6=0)=false by rw[decide_eq_false_iff_not];exact h];rfl
theorem qSS {g:DiaV}{s:ByteArray}(h:zU s 6=false):diaH g s=false:=by
 unfold diaH;rw[h];simp
theorem qXK {g:DiaV}{s:ByteArray}(h:diaE g 6=0)(hw:zU s 6=true):diaH g s=decG g.chos (fun p=>(mtsW g.pats s).getD p false) g.root:=by
 obtain⟨_,_,_,_,_,h6,_,h8⟩:=cM h;unfold diaH;rw[show decide (diaE g 6=0)=true by rw[decide_eq_true_eq];exact h,hw];simp only[Bool.true_and];unfold decG
 have key:∀(f:Nat) (r:Int),r<=1+(g.chos.length:Int)->decF g.chos (fun p=>yJ (g.pats.getD p []) s) f r=decF g.chos (fun p=>(mtsW g.pats s).getD p false) f r:=by
  intro f
  induction f with
  | zero=>exact fun r _=>rfl
  | succ f ih =>
   intro r hr;rw[decF,decF]
   split
   ·rfl
   rename_i h2
   have hc:=qY (h6 (r.toNat-2) (by omega));have e:yJ (g.pats.getD (g.chos.getD (r.toNat-2) default).p.toNat []) s=(mtsW g.pats s).getD (g.chos.getD (r.toNat-2) default).p.toNat false:=(qWB (by omega)).symm;rw[e]
   split
   ·exact ih _ (by omega)
   exact ih _ (by omega)
 exact key _ _ h8
theorem qDP (B:Nat)(w:World)(v:Value)(g:DiaV)(s:ByteArray)(hB:B<=w.heap.size)(h:mB B w v g)(hs:s.size<=maxLen):Calls Tryz.prog 15 #[v,.string s] w fun e w'=>e=.returned (.bool (diaH g s))/\w.grownBy w' none:=by
 obtain⟨pv,cv,rfl,hp,hc⟩:=h;obtain⟨ps,cs,root⟩:=g;simp only at hp hc⊢;have h1:=Ga w (.cells #[pv,cv,.int .i64 root] 35) none;have h4:=heap_alloc_new w (.cells #[pv,cv,.int .i64 root] 35);obtain⟨wA,H1⟩:=Nm (w.alloc (.cells #[pv,cv,.int .i64 root] 35));obtain⟨P,hP⟩:=Nm w.heap.size;rw[<-H1]at h1 h4;rw[<-hP]at h4;obtain⟨H2,H3,H4,a2⟩:=K4 H1 hP h1 h4;have HP:=Kh (hp.kept h1 (by simp));have HC:=Kh (hc.kept h1 (by simp));have a3:=h1.size
 have HV:Hid (∀W:World,wA.grownBy W none->Calls Tryz.prog 36 #[.agg #[pv,cv,.int .i64 root],.int .i64 6] W fun e w'=>e=.returned (.int .i64 (diaE ⟨ps,cs,root⟩ 6))/\wA.grownBy w' none):=Kh (fun W hW =>
  (qDJ B W _ ⟨ps,cs,root⟩ 6 (by have:=hW.size;omega) ⟨pv,cv,rfl,HP.out.kept hW (by simp),HC.out.kept hW (by simp)⟩).mono fun e w' ⟨he,hg⟩=>⟨he,zC hW hg⟩)
 have H0:Hid (∀W:World,wA.grownBy W none->Calls Tryz.prog 37 #[.string s,.int .i64 6] W fun e w'=>e=.returned (.bool (zU s 6))/\wA.grownBy w' none):=Kh (fun W hW=>(oU s 6 W hs).mono fun e w' ⟨he,hg⟩=>⟨he,by rw[<-hg];exact hW⟩);have a1:Hid (∀W:World,wA.grownBy W none->W.cell? ⟨P,0,none⟩=some pv/\W.cell? ⟨P,1,none⟩=some cv/\W.cell? ⟨P,2,none⟩=some (.int .i64 root)):=Kh (fun W hW=>zQ (zB a2.out hW));obtain⟨p0,p1,p2⟩:=zQ h4;have GA:wA.grownBy wA.drew none:=zN _ _;clear h4 h1 H1 hP hp hc;by_cases hE:diaE ⟨ps,cs,root⟩ 6=0
 case neg =>
  have HR:=Kh (xAL (s:=s) hE);obtain⟨E,H6⟩:=Nm (diaE ⟨ps,cs,root⟩ 6);rw[<-H6]at HV hE;have e1:(E == 0)=false:=by rw[beq_eq_false_iff_ne];exact hE
  clear H6;go_enter Tryz.func15,Tryz.ntmps15;go_upto_region 1 with fail;rw[<-H2.out,<-H3.out]
  first|go_region_law (first|(go_simp;go_at_call 36;(with_reducible refine(HV.out _ (by first|assumption|exact zH _ _)).mono ?_);rintro e w7 ⟨rfl,h9⟩)|(go_simp;go_at_call 37;(with_reducible refine(H0.out _ (by assumption)).mono ?_);rintro e w8 ⟨rfl,h5⟩;have h9:=h5)|fail)|fail
  all_goals
   go_wp2;go_ret;exact⟨zW HR.out.symm,zA H4.out (by assumption)⟩
 obtain⟨vb,h2⟩:=Nm (zU s 6);rw[hE]at HV;rw[<-h2]at H0;cases vb with
 | false =>
  have HR:=Kh (qSS (g:=⟨ps,cs,root⟩) h2.symm);clear h2 hE;go_enter Tryz.func15,Tryz.ntmps15;go_upto_region 1 with fail;rw[<-H2.out,<-H3.out]
  first|go_region_law (first|(go_simp;go_at_call 36;(with_reducible refine(HV.out _ (by first|assumption|exact zH _ _)).mono ?_);rintro e w7 ⟨rfl,h9⟩)|(go_simp;go_at_call 37;(with_reducible refine(H0.out _ (by assumption)).mono ?_);rintro e w8 ⟨rfl,h5⟩;have h9:=h5)|fail)|fail
  all_goals
   go_wp2;go_ret;exact⟨zW HR.out.symm,zA H4.out (by assumption)⟩
 | true =>
  have HR:=Kh (qXK (g:=⟨ps,cs,root⟩) hE h2.symm);obtain⟨_,_,h3,_,_,h6,h7,h8⟩:=cM hE;simp only at h3 h6 h7 h8;obtain⟨n,hn⟩:=Nm ps.length
  have HM:Hid (∀W:World,wA.grownBy W none->Calls Tryz.prog 39 #[pv,.string s] W fun e w'=>∃sa sc,e=.returned (.slice sa n sc)/\Row w'.heap.size w' (.slice sa n sc) (bls (mtsW ps s))/\wA.grownBy w' none):=Kh (fun W hW=>by
   rw[hn]
   exact(qDO B W pv ps s (by have:=hW.size;omega) (HP.out.kept hW (by simp)) (by omega) hs).mono fun e w' ⟨sa,sc,he,ho,hg⟩=>⟨sa,sc,he,Row.of_owns ho,zC hW hg⟩)
  have H7:Hid (∀(W:World) (sa:Option Addr) (sc:Nat),wA.grownBy W none->Row W.heap.size W (.slice sa n sc) (bls (mtsW ps s))->Calls Tryz.prog 38 #[.agg #[pv,cv,.int .i64 root],.slice sa n sc] W fun e w'=>e=.returned (.bool (decG cs (fun p=>(mtsW ps s).getD p false) root))/\wA.grownBy w' none):=Kh (fun W sa sc hW hr =>
   (qGY W.heap.size W _ ⟨ps,cs,root⟩ _ (mtsW ps s) (mB.mono (B:=B) ⟨pv,cv,rfl,HP.out.kept hW (by simp),HC.out.kept hW (by simp)⟩ (by have:=hW.size;omega)) h6 h7 h8 (by rw[dM];exact Nat.le_refl _) hr).mono fun e w' ⟨he,hg⟩=>⟨he,zC hW hg⟩)
  obtain⟨ans,h0⟩:=Nm (decG cs (fun p=>(mtsW ps s).getD p false) root);rw[<-h0]at H7;have a0:Hid (diaH ⟨ps,cs,root⟩ s=ans):=Kh (by rw[HR.out,h0]);clear h2 hE h0 HR h3 h6 h7 h8 hn;go_enter Tryz.func15,Tryz.ntmps15;go_upto_region 1 with fail;rw[<-H2.out,<-H3.out]
  go_region_held3 (fun w'=>w'.cell? ⟨P,0,none⟩=some pv/\w'.cell? ⟨P,1,none⟩=some cv/\w'.cell? ⟨P,2,none⟩=some (.int .i64 root))
   (first|go_keep|exact a1.out _ (by assumption)|fail)
   (first|(go_at_call 36;(with_reducible refine(HV.out _ (by assumption)).mono ?_);rintro e w7 ⟨rfl,h9⟩)|(go_at_call 37;(with_reducible refine(H0.out _ (by assumption)).mono ?_);rintro e w8 ⟨rfl,h5⟩)|(go_at_call 39;(with_reducible refine(HM.out _ (by assumption)).mono ?_);rintro e w9 ⟨sa9,sc9,rfl,H5,a4⟩;have H9:=Kh H5;clear H5)|(go_at_call 38;(with_reducible refine(H7.out _ _ _ (by assumption) H9.out).mono ?_);rintro e w10 ⟨rfl,H8⟩)|fail)
  all_goals
   go_wp2;go_ret;exact⟨zW a0.out.symm,zA H4.out (by assumption)⟩
open Go.Maps
theorem qLL.t34 {w w':World}{v:Value}{m:DfaV}{n k:Nat}(h:qLL w w' v m)(hd:VD m n k):∃f nx,v=.agg #[.int .i64 m.letters,.int .i64 m.start,f,nx]/\DfaT w' f nx m:=by
 obtain⟨o,hs,sf,cf,sn,cn,rfl,_,hh⟩:=h;have hb:=hh.built (by rw[hd.hn,hd.nl]);exact⟨_,_,rfl,hs,RowT.of_owns hb.ownF,RowT.of_owns hb.ownN,hb.rows⟩
theorem qGM {B:Nat}{w:World}{tb:Nat}(h:wH B w tb):∀k,some tb=some k->yC w 4 k/\yC w 22 k/\yC w 3 k:=fun k e=>by
 have e:tb=k:=Oj e
 subst e
 obtain⟨sl,zs,n,hb,_⟩:=h
 exact⟨⟨_,_,_,hb,by decide⟩,⟨_,_,_,hb,by decide⟩,⟨_,_,_,hb,by decide⟩⟩
theorem qZQ {w':World}{d:DfaV}{ps:List (List ByteArray)}{v:Value}{u1 u2:ByteArray}(h:OfOut w' d ps v u1 u2 0):ofE d ps=0/\∃g:DiaV,mB w'.heap.size w' v g/\g.pats=ps/\wT ps.length g.chos g.chos.length/\0<=g.root/\g.root<=1+(g.chos.length:Int)/\g.chos.length<=4000/\(∀u,yO d.letters.toNat u->decG g.chos (fun i=>acc (xI (ps.getD i []) d.letters) (st0 (xI (ps.getD i []) d.letters)) u) g.root=acc d (st0 d) u):=by
 generalize hE:(0:Int)=E at h
 cases h with
 | bad h=>exact absurd hE.symm h
 | over h ho=>cases hE
 | conf h hu hc u v h1 h2 h3 h4 h5 h6 h7=>cases hE
 | ok v g l L h hL hl4 hn hg h1 h2 h3 h4 h5 hc h6=>exact⟨h,g,hg,h1,h2,h3,h4,by have:=hc.len_le;omega,h5⟩
theorem combineLeast_walk (w:World)(v0:Value)(z0:List Int)(z1:Int)(h0:Row w.heap.size w v0 (z0.map (Value.int .i64)))(hL:SomeLen w):Calls Tryz.prog 3 #[v0,.int .i64 z1] w fun e w'=>e=.returned (.bool true)/\w.grownBy w' none:=by
 have HL:=Kh hL;clear hL;go_enter Tryz.func3,Tryz.ntmps3;go_wp2_with fail;refine(qZU w.heap.size w v0 z0 h0 (Nat.le_refl _)).mono ?_;rintro e w1 ⟨rfl,g8,g4⟩;go_wp2_with fail;refine(tG w.heap.size w.heap.size w1 2 (by omega) g8).mono ?_;rintro e w2 ⟨r,rfl,m1,f0,g7,g3⟩;replace f0:=f0 (by omega);have GW2:=Kh (zA g4 g3);obtain⟨k,hk⟩:∃k:Nat,1+r=(k:Int):=⟨(1+r).toNat,by omega⟩;have d5:1<=k:=by omega
 have g0:k<=2:=by omega
 have f6:=dP z1 7;have f5:=qRK z1 7 (by omega);obtain⟨md,f3⟩:=Nm (modI z1 7);have e0:=Kh (qHO z1 7 w2 (by omega));rw[<-f3]at e0 f6 f5;obtain⟨kd,m4⟩:∃kd:Int,1+md=kd:=⟨_,rfl⟩;have i3:=Kh g7;clear g8 g4 g7 g3 f3;go_wp2_with fail;refine e0.out.mono ?_;rintro e w3 ⟨rfl,rfl⟩;have j1:=Kh (qWM w.heap.size w.heap.size w2 k 3 d5 g0 (by omega) (by omega) i3.out);clear e0;go_wp2_with fail;refine j1.out.mono ?_;rintro e w4 ⟨dv,m,n,rfl,H8,c6,m2,-,d8,g2⟩;obtain⟨f4,n4,rfl,d7⟩:=H8.t34 c6;obtain⟨fa,mf,fc,na,mn,nc,rfl,rfl⟩:=d7.shapes;have GW4:=Kh (zA GW2.out g2 (fun j e=>by have e:w.heap.size=j:=Oj e;omega));obtain⟨ml,d4⟩:=Nm m.letters;obtain⟨ms,d2⟩:=Nm m.start;rw[<-d4,<-d2];obtain⟨i1,k6,k5⟩:=K3 c6 d4 d2;have b7:=heap_alloc_new w4 (.cells #[.int .i64 ml,.int .i64 ms,.slice fa mf fc,.slice na mn nc] 30);have H9:=Ga w4 (.cells #[.int .i64 ml,.int .i64 ms,.slice fa mf fc,.slice na mn nc] 30) none;obtain⟨w5,a7⟩:=Nm (w4.alloc (.cells #[.int .i64 ml,.int .i64 ms,.slice fa mf fc,.slice na mn nc] 30));obtain⟨R,hR⟩:=Nm w4.heap.size;have m7:Hid (w5.heap.size=R+1):=Kh (by rw[a7,zL,hR]);rw[<-a7]at b7 H9;rw[<-hR]at b7;obtain⟨j9,k2,l7⟩:=K3 a7 hR b7;have GW5:=Kh (zA GW4.out H9);have i2:=Kh (d8.kept H9 (by simp));have l3:=Kh (d7.kept H9 (by simp));have m0:w.heap.size<R:=by have:=d8.lt;omega
 clear H8 c6 d7 d8 g2 d4 d2 b7 H9 a7 hR j1 i3;go_upto_region 5 with fail;rw[<-j9.out,<-k2.out];go_wp2_with fail;refine(tG w.heap.size w.heap.size w5 2 (by omega) i2.out).mono ?_;rintro e wc ⟨r2,rfl,c9,H0,j6,H2⟩;replace H0:=H0 (by omega);obtain⟨mo,m3⟩:∃mo:Int,1+r2=mo:=⟨_,rfl⟩;have H1:mo<=2:=by omega
 have d3:0<=mo:=by omega
 have b9:=Kh (zA GW5.out H2 (fun j e=>by have e:w.heap.size=j:=Oj e;omega));have e5:=Kh (zB l7.out H2 (fun e=>by have:=Oj e;omega));have H5:Hid (tM wc.heap.size wc (.agg #[.int .i64 ml,.int .i64 ms,.slice fa mf fc,.slice na mn nc]) m):=Kh (by rw[k6.out,k5.out];exact(l3.out.kept H2 (qGM i2.out)).ok);have i6:=Kh (qIH wc.heap.size wc _ m kd mo (Nat.le_refl _) H5.out (.inl H1));have i5:Hid (∀W:World,wc.grownBy W none->Calls Tryz.prog 9 #[.agg #[.int .i64 ml,.int .i64 ms,.slice fa mf fc,.slice na mn nc],.int .i64 kd,.int .i64 mo] W (qIW W m kd mo)):=Kh (fun W hW=>qMF wc.heap.size W _ m kd mo hW.size (H5.out.kept hW (by simp)) (.inl H1));obtain⟨c0,c1,c2,c3⟩:=zE e5.out;clear j6 H2 c9 H0 f6 f5;go_wp2_with fail
 with_reducible refine i6.out.mono ?_
 clear d3 H1;rintro e w6 ⟨ap,ac,n1,cp,n2,cc,rt,kk,mm,E,rfl,H2,f8,f2⟩;have k7:=Kh f8;have k3:=Kh f2;have b6:=heap_alloc_new w6 (.cells #[.slice ap n1 cp,.slice ac n2 cc,.int .i64 rt] 35);have b5:=Ga w6 (.cells #[.slice ap n1 cp,.slice ac n2 cc,.int .i64 rt] 35) none;obtain⟨w7,c5⟩:=Nm (w6.alloc (.cells #[.slice ap n1 cp,.slice ac n2 cc,.int .i64 rt] 35));obtain⟨X,hX⟩:=Nm w6.heap.size;rw[<-c5]at b6 b5;rw[<-hX]at b6;obtain⟨j8,j7,e1⟩:=K3 c5 hX b5;have H3:=Kh (zC H2 b5);have l6:=Kh b6;have i7:Hid (∀W:World,wc.grownBy W none->Calls Tryz.prog 10 #[] W fun e w'=>e=.returned (.bool true)/\wc.grownBy w' none):=Kh (fun W hW=>(qHV W (HL.out.kept (zA b9.out hW) (by simp))).mono fun e w' h=>⟨h.1,zC hW h.2⟩);clear f8 f2 H2 b6 b5 c5 hX i6 c0 c1 c2 c3;go_upto_region 7 with fail;rw[<-j8.out,<-j7.out];obtain⟨c0,c1,c2,c3⟩:=zE (zB e5.out H3.out);go_wp2_with fail;refine(i5.out _ H3.out).mono ?_;rintro e w8 ⟨qk,qm,qE,rfl,b4,f7⟩;obtain⟨rfl,rfl,rfl⟩:=qBU k7.out f7;have h6:=Kh (zC H3.out b4);have l5:=Kh (zB l6.out b4);have H4:=Kh (zC e1.out b4);have t1:(E != E)=false:=by simp
 have t2:(kk != kk)=false:=by simp
 have t3:(mm != mm)=false:=by simp
 clear f7 b4 c0 c1 c2 c3 i5;by_cases hE:E=0
 case neg =>
  have e2:(E != 0)=true:=by rw[bne_iff_ne];exact hE
  go_wp2_with fail;refine(i7.out _ h6.out).mono ?_;rintro e w9 ⟨rfl,b3⟩;go_wp2;go_ret;exact⟨rfl,zA b9.out b3⟩
 subst hE;obtain⟨c7,a4,d6,u1,u2,h7⟩:=k3.out rfl;have a8:m.letters=(k:Int):=i1.out.hk;rw[a8]at a4 d6 h7;obtain⟨L,b8⟩:=Nm (famL kd k kk mm);have m8:=Kh b8;rw[<-b8]at a4 h7;have j0:=Kh a4;have g5:=rH a4;obtain⟨ps,d0⟩:=Nm (famB L);have d9:=Kh d0;rw[<-d0]at h7 g5;obtain⟨ho,g,g6,h1,h2,h3,h4,j4,h5⟩:=qZQ h7;have a5:=qYJ ho h1 h2 h3 h4 (by omega);have k8:Hid (∀s,zU s (k:Int)=true->diaH g s=acc m (st0 m) (zI s)):=Kh (fun s hs=>qJY ho h1 h2 h3 h4 (by omega) h5 (by rw[a8];exact hs));have H6:=Kh (g6.kept H4.out (by simp));obtain⟨pv8,cv8,ev8,f1,j5⟩:=H6.out;cases ev8
 have k0:Hid (∀W:World,w8.grownBy W none->Calls Tryz.prog 13 #[.agg #[.slice ap n1 cp,.slice ac n2 cc,.int .i64 g.root],.int .i64 (k:Int)] W fun e w'=>e=.returned (.int .i64 0)/\w8.grownBy w' none):=Kh (fun W hW=>by
  have:=qAJ w6.heap.size W _ g (k:Int) (Nat.le_trans H4.out.size hW.size) (H6.out.kept hW (by simp));have hz:diaE g (k:Int)=0:=by rw[<-a8];exact a5.2
  rw[hz]at this
  exact this.mono fun e w' h=>⟨h.1,zC hW h.2⟩)
 have k1:Hid (∀(W:World) (v:Value),w8.grownBy W none->vE W.heap.size W v ps->Calls Tryz.prog 12 #[.slice ap n1 cp,v] W fun e w'=>e=.returned (.bool true)/\w8.grownBy w' none):=Kh (fun W v hW q2=>by
  have q1:=f1.kept hW (by simp);rw[h1,d9.out]at q1;rw[d9.out]at q2;have h9:=j0.out;simp only[fO,Bool.and_eq_true,decide_eq_true_eq,List.all_eq_true]at h9;refine(qPM _ _ W _ _ L q1 q2 (by have:=h9.1;omega) (fun p hp=>?_)).mono fun e w' ⟨he,m,hm⟩=>⟨he,by rw[hm];exact zC hW (zK _ _ none)⟩;have:=(h9.2 p hp).2
  omega)
 have l8:Hid (∀(W:World) (s:ByteArray),w8.grownBy W none->zU s (k:Int)=true->Calls Tryz.prog 16 #[.agg #[.int .i64 ml,.int .i64 ms,.slice fa mf fc,.slice na mn nc],.string s] W fun e w'=>e=.returned (.bool (acc m (st0 m) (zI s)))/\W.grownBy w' none):=Kh (fun W s hW hs=>by
  have h9:=qDR wc.heap.size W _ m _ _ s (Nat.le_trans h6.out.size hW.size) ((H5.out.kept h6.out (by simp)).kept hW (by simp)) i1.out hs
  exact h9)
 have l2:Hid (Calls Tryz.prog 11 #[.int .i64 kd,.int .i64 (k:Int),.int .i64 kk,.int .i64 mm] w8 (sW w8 0 L)):=Kh (by rw[b8,<-d6];exact kT _ _ _ _ _);have l1:Hid (w.grownBy w8 none):=Kh (zA b9.out h6.out);have c4:Hid (∀W:World,w8.grownBy W none->(W.cell? ⟨X,0,none⟩=some (.slice ap n1 cp)/\W.cell? ⟨X,1,none⟩=some (.slice ac n2 cc)/\W.cell? ⟨X,2,none⟩=some (.int .i64 g.root))/\(W.cell? ⟨R,0,none⟩=some (.int .i64 ml)/\W.cell? ⟨R,1,none⟩=some (.int .i64 ms)/\W.cell? ⟨R,2,none⟩=some (.slice fa mf fc)/\W.cell? ⟨R,3,none⟩=some (.slice na mn nc))):=Kh (fun W hW=>⟨zQ (zB l5.out hW),zE (zB e5.out (zC h6.out hW))⟩);clear c7 a4 d6 h7 a8 b8 g5 d0 ho g6 h1 h2 h3 h4 j4 h5 a5 f1 j5;go_wp2_with fail;refine l2.out.mono ?_;rintro e w9 ⟨sa,sc,svs,rfl,e8,e9,b3⟩;have i4:Hid (vE w9.heap.size w9 (.slice sa L.length sc) ps):=Kh (by rw[d9.out];exact FamD.pats ⟨j0.out,svs,e8,e9,sa,sc,rfl⟩);obtain⟨ln,f9⟩:=Nm L.length;rw[<-f9]at i4⊢;have i9:=Kh b3;clear b3 e8 e9 f9;obtain⟨⟨b0,b1,b2⟩,-⟩:=c4.out w9 i9.out;go_wp2_with fail;refine(k1.out _ _ i9.out i4.out).mono ?_;rintro e w10 ⟨rfl,a3⟩;have a6:=Kh a3;clear a3 b0 b1 b2;obtain⟨⟨b0,b1,b2⟩,-⟩:=c4.out w10 a6.out;go_wp2_with fail;refine(k0.out _ a6.out).mono ?_;rintro e w11 ⟨rfl,a0⟩;have e4:=Kh a0;clear a0 b0 b1 b2;go_wp2_with fail;refine(qLO w11 k 4 d5 g0 (by omega)).mono ?_;rintro e w12 ⟨ws,sa,sc,rfl,e6,h8,e7⟩;have e3:=Kh (zC e4.out h8);obtain⟨nw,d1⟩:=Nm ws.length;obtain⟨g9,i0,k4⟩:=K3 e6 e7 d1;rw[<-d1]at g9⊢;clear e6 h8 e7 d1;go_wp2
 go_loopg [19,89] nw (fun gh v16 v122 wr=>∃i:Nat,gh+i=nw/\v122=.int .i64 i/\w12.grownBy wr none)
 case atStart=>exact⟨0,rfl,rfl,zH _ _⟩
 obtain⟨i,g1,rfl,hg⟩:=hrel;have i8:=Kh g1;have H7:=Kh (zC e3.out hg);have l0:=Kh hg;clear g1;by_cases hi:i<nw
 ·have j3:(i:Int)<nw:=by omega
  obtain⟨wb,rfl,x1,x2,xarr⟩:=yH (zP g9.out hg) (by omega);have a9:i<ws.length:=(by rw[<-k4.out];exact hi);have cx:=xarr.strL i a9;obtain⟨u,hu⟩:=Nm (ws.getD i []);rw[<-hu]at cx;have c8:u∈ws:=(by rw[hu,zG a9];exact List.getElem_mem a9);have j2:=i0.out.len u c8;obtain⟨a1,a2⟩:=qNE d5 (by omega) (i0.out.ok u c8) (by omega);obtain⟨s,hs⟩:=Nm (strOfNums (lets u));rw[<-hs]at cx a1 a2;have q1:sc<=9223372036854775807:=by unfold maxLen at x2;omega
  obtain⟨b,hb⟩:=Nm (acc m (st0 m) (zI s))
  have k9:Hid (∀W:World,wr.grownBy W none->Calls Tryz.prog 15 #[.agg #[.slice ap n1 cp,.slice ac n2 cc,.int .i64 g.root],.string s] W fun e w'=>e=.returned (.bool b)/\wr.grownBy w' none):=Kh (fun W hW=>by
   have h9:=qDP w6.heap.size W _ g s (Nat.le_trans H4.out.size (zC H7.out hW).size) (H6.out.kept (zC H7.out hW) (by simp)) (by have:=(uI a1).2.2;unfold maxLen;omega);rw[k8.out s a1,<-hb]at h9
   exact h9.mono fun e w' h=>⟨h.1,zC hW h.2⟩)
  have l9:Hid (∀W:World,wr.grownBy W none->Calls Tryz.prog 16 #[.agg #[.int .i64 ml,.int .i64 ms,.slice fa mf fc,.slice na mn nc],.string s] W fun e w'=>e=.returned (.bool b)/\wr.grownBy w' none):=Kh (fun W hW=>by
   have h9:=l8.out W s (zC H7.out hW) a1;rw[<-hb]at h9
   exact h9.mono fun e w' h=>⟨h.1,zC hW h.2⟩)
  have l4:Hid (∀W:World,wr.grownBy W none->(W.cell? ⟨X,0,none⟩=some (.slice ap n1 cp)/\W.cell? ⟨X,1,none⟩=some (.slice ac n2 cc)/\W.cell? ⟨X,2,none⟩=some (.int .i64 g.root))/\(W.cell? ⟨R,0,none⟩=some (.int .i64 ml)/\W.cell? ⟨R,1,none⟩=some (.int .i64 ms)/\W.cell? ⟨R,2,none⟩=some (.slice fa mf fc)/\W.cell? ⟨R,3,none⟩=some (.slice na mn nc))):=Kh (fun W hW=>c4.out W (zC H7.out hW));obtain⟨⟨b0,b1,b2⟩,c0,c1,c2,c3⟩:=c4.out wr H7.out;clear j2 c8 hu hs a1 a2 hb x2 xarr hg a9;go_upto_region 18 with fail
  go_region_held3 (fun W=>(W.cell? ⟨X,0,none⟩=some (.slice ap n1 cp)/\W.cell? ⟨X,1,none⟩=some (.slice ac n2 cc)/\W.cell? ⟨X,2,none⟩=some (.int .i64 g.root))/\(W.cell? ⟨R,0,none⟩=some (.int .i64 ml)/\W.cell? ⟨R,1,none⟩=some (.int .i64 ms)/\W.cell? ⟨R,2,none⟩=some (.slice fa mf fc)/\W.cell? ⟨R,3,none⟩=some (.slice na mn nc)))
   (first|go_keep|exact l4.out _ (by first|assumption|exact zN _ none)|fail)
   (first|(go_at_call 15;(with_reducible refine(k9.out _ (by first|assumption|exact zN _ none)).mono ?_);rintro e w7 ⟨rfl,m6⟩)|(go_at_call 16;(with_reducible refine(l9.out _ (by first|assumption|exact zN _ none)).mono ?_);rintro e w8 ⟨rfl,m5⟩)|fail)
  all_goals
   go_wp2;go_roundg (nw-(i+1))
   case measure=>have:=i8.out;omega
   exact⟨i+1,by have:=i8.out;omega,by go_num,zC l0.out (by assumption)⟩
 have j3:¬(i:Int)<nw:=by omega
 clear hg;go_wp2_with fail;refine(i7.out _ (zC h6.out H7.out)).mono ?_;rintro e w12 ⟨rfl,h8⟩;go_wp2;go_ret;exact⟨rfl,zA b9.out h8⟩
end Go.Proofs.YtcoimliafiammaaGreat
namespace Go.Proofs.YtcoimliafiammaaGreat
open Go.RowKit
theorem someLen_of_shaped {w:World}(h:w.ShapedOpen Tryz.prog):SomeLen w:=by
 obtain⟨m,hm⟩:=Go.Proofs.cell_of_shapedOpen_int (P:=Tryz.prog) (w:=w) (g:=0) (t:=3) (zero:=#[.int .i64 0]) (k:=.i64) h (of_decide_eq_true (by kernel_rfl)) (by kernel_rfl) rfl (by kernel_rfl) (by kernel_rfl) Tryz.underlying3;exact⟨World.block_lt_of_cell? w _ hm,m,hm⟩
end Go.Proofs.YtcoimliafiammaaGreat
