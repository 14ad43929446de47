/- Part 5 of the proof. -/
import Derived.Test.YtobakifdllameaaQa4
import Derived.Lib.ConvBytes
set_option linter.unusedVariables false
set_option linter.unusedSimpArgs false
set_option maxRecDepth 100000
set_option maxHeartbeats 16000000
namespace Go.Proofs.Ytobakifdllameaa
def asN (n i p:Nat):Nat:=if n<i then n else i+(n-i) % p
def iN (c:CntV)(a:Nat):Nat:=(c.idx.getD a 0).toNat
def pN (c:CntV)(a:Nat):Nat:=(c.per.getD a 0).toNat
def atTo (c:CntV)(ns:List Nat):Nat->Nat
 | 0=>0
 | a+1=>atTo c ns a*(iN c a+pN c a)+asN (ns.getD a 0) (iN c a) (pN c a)
def vN (k:Nat)(u:List Nat):List Nat:=(List.range k).map fun a=>u.count a
theorem rU (k:Nat)(u:List Nat):(vN k u).length=k:=by simp[vN]
theorem eP {k a:Nat}{u:List Nat}(h:a<k):(vN k u).getD a 0=u.count a:=by
 rw[zN (by rw[rU];exact h)];simp[vN]
theorem qEM (k:Nat):vN k []=List.replicate k 0:=by
 refine List.ext_getElem (by simp[vN]) fun i h1 h2=>?_;simp[vN]
theorem qBM {k a:Nat}{u:List Nat}:(vN k u).set a (u.count a+1)=vN k (u++[a]):=by
 refine List.ext_getElem (by simp[vN]) fun i h1 h2=>?_;rw[List.getElem_set];simp only[vN,List.getElem_map,List.getElem_range,List.count_append,List.count_singleton]
 split
 ·rename_i e;subst e;simp
 rename_i e;simp[e]
theorem qLV {n i p:Nat}(hp:1<=p):asN n i p<i+p:=by
 unfold asN
 split
 ·omega
 have:=Nat.mod_lt (n-i) (show p > 0 by omega);omega
theorem qLC {c:CntV}(a9:PosC c.idx c.per)(ns:List Nat):∀(a m:Nat),a<=c.idx.length->uE c.idx c.per a=some m->atTo c ns a<m
 | 0,m,_,h=>by rw[uE]at h;have:=Oj h;subst this;simp[atTo]
 | a+1,m,ha,h=>by
  rw[uE]at h
  rcases hc:uE c.idx c.per a with _|x
  ·rw[hc]at h;cases h
  ·rw[hc]at h
   simp only at h
   have hp:=a9 a (by omega)
   have ih:=qLC a9 ns a x (by omega) hc
   split at h
   ·cases h
   ·have e:=Oj h
    have e2:(c.idx.getD a 0+c.per.getD a 0).toNat=iN c a+pN c a:=by unfold iN pN;omega
    rw[<-e,e2,atTo]
    have h1:=qLV (n:=ns.getD a 0) (i:=iN c a) (p:=pN c a) (by unfold pN;omega)
    calc atTo c ns a*(iN c a+pN c a)+asN (ns.getD a 0) (iN c a) (pN c a)<atTo c ns a*(iN c a+pN c a)+(iN c a+pN c a):=by omega
     _=(atTo c ns a+1)*(iN c a+pN c a):=by rw[Nat.add_mul,Nat.one_mul]
     _<=x*(iN c a+pN c a):=Nat.mul_le_mul_right _ ih
theorem eN {idx per:List Int}{n m:Nat}(h:uE idx per n=some m):∀a,a<=n->∃x,uE idx per a=some x:=by
 intro a ha;rcases hc:uE idx per a with _|x
 ·have:=kR hc (n-a)
  rw[show a+(n-a)=n by omega,h]at this;cases this
 exact⟨x,rfl⟩
noncomputable def rL (c:CntV)(s:ByteArray):Bool:=decide (cntE c=0) && xV s c.idx.length && c.acc.getD (atTo c (vN c.idx.length (yS s)) c.idx.length) false
theorem qHF {c:CntV}{s:ByteArray}(h:cntE c≠0):rL c s=false:=by rw[rL,decide_eq_false h];rfl
theorem qDZ {c:CntV}{s:ByteArray}(h:xV s c.idx.length=false):rL c s=false:=by rw[rL,h];simp
theorem qHE {c:CntV}{s:ByteArray}(h:cntE c=0)(h2:xV s c.idx.length=true):rL c s=c.acc.getD (atTo c (vN c.idx.length (yS s)) c.idx.length) false:=by rw[rL,h2,decide_eq_true h];rfl
theorem qNG {c:CntV}{ns:List Nat}{a i p:Nat}(hi:c.idx.getD a 0=(i:Int))(hp:c.per.getD a 0=(p:Int)):atTo c ns (a+1)=atTo c ns a*(i+p)+asN (ns.getD a 0) i p:=by
 rw[atTo,show iN c a=i by unfold iN;omega,show pN c a=p by unfold pN;omega]
theorem qPJ {c:CntV}(h:CntOk c){a:Nat}(ha:a<c.idx.length):∃i p:Nat,c.idx.getD a 0=(i:Int)/\c.per.getD a 0=(p:Int)/\i<=2000/\1<=p/\p<=2000:=by
 have hp:=h.pos a ha;obtain⟨x,hx⟩:=eN h.size (a+1) (by omega);rw[uE]at hx
 split at hx
 ·cases hx
 split at hx
 ·cases hx
 exact⟨(c.idx.getD a 0).toNat,(c.per.getD a 0).toNat,by omega,by omega,by omega,by omega,by omega⟩
theorem qPQ {c:CntV}(h:CntOk c)(ns:List Nat){a:Nat}(ha:a<=c.idx.length):atTo c ns a<=2000:=by
 obtain⟨x,hx⟩:=eN h.size a ha;have h1:=qLC h.pos ns a x ha hx;have h2:=kB hx;omega
open Go.RowKit
theorem dA (x n:Int)(hn:1<=n):-n<x.tmod n/\x.tmod n<n:=by
 constructor
 ·by_cases h:0<=x
  ·have:=Int.tmod_nonneg n h;omega
  have h1:=Int.tmod_lt_of_pos (-x) (show (0:Int)<n by omega);rw[Int.neg_tmod]at h1;omega
 exact Int.tmod_lt_of_pos x (by omega)
def modI (x n:Int):Int:=if n<1 then 0 else if x.tmod n<0 then x.tmod n+n else x.tmod n
theorem qAX (x n:Int):0<=modI x n:=by
 unfold modI;split
 ·omega
 have:=dA x n (by omega);split<;>omega
theorem qMY (x n:Int)(h:1<=n):modI x n<n:=by
 have:=dA x n h;unfold modI;rw[if_neg (by omega)];split<;>omega
theorem qGU (x n:Int)(h:n<1):modI x n=0:=by
 unfold modI;rw[if_pos h]
theorem qGT (x n:Int)(w:World)(hn:n<=9223372036854775807):Calls Try.prog 17 #[.int .i64 x,.int .i64 n] w fun e w'=>e=.returned (.int .i64 (modI x n))/\w=w':=by
 by_cases h1:n<1
 ·go_enter Try.func17,Try.ntmps17
  go_wp2;go_ret;exact⟨yX (qGU x n (by omega)).symm,rfl⟩
 have h2:=(dA x n (by omega)).1;have h0:=(dA x n (by omega)).2;go_enter Try.func17,Try.ntmps17;go_wp2
 all_goals (go_ret;exact⟨yX (by unfold modI;rw[if_neg (by omega)];first|rw[if_pos (by omega)]|rw[if_neg (by omega)]),rfl⟩)
def uS (B:Nat)(w:World)(tb:Nat):Prop :=
 ∃(sl:Value) (zs:List Int) (n:Nat),w.heap[tb]?=some (.cells #[sl,.int .i64 n] 51 (0,0))/\Row B w sl (zs.map (Value.int .i64))/\B<=tb/\n<=zs.length
theorem uS.lt {B:Nat}{w:World}{tb:Nat}(h:uS B w tb):tb<w.heap.size:=by
 obtain⟨_,_,_,h,_⟩:=h;exact(Array.getElem?_eq_some_iff.1 h).1
theorem uS.ge {B:Nat}{w:World}{tb:Nat}(h:uS B w tb):B<=tb:=by
 obtain⟨_,_,_,_,_,h,_⟩:=h;exact h
theorem uS.kept {B:Nat}{w w':World}{tb:Nat}{row:Option Nat}(h:uS B w tb)(hg:w.grownBy w' row)(hr:∀k,row=some k->B<=k/\k≠tb):uS B w' tb:=by
 have hl:=h.lt;obtain⟨sl,zs,n,h1,h2,h3,h4⟩:=h;exact⟨sl,zs,n,(hg.block tb hl (fun e=>(hr tb e.symm).2 rfl)).trans h1,h2.kept hg (fun k e=>(hr k e).1),h3,h4⟩
theorem uS.of_heap {B:Nat}{w w':World}{tb:Nat}(h:uS B w tb)(e:w'.heap=w.heap):uS B w' tb:=by
 obtain⟨sl,zs,n,h1,h2,h3,h4⟩:=h;exact⟨sl,zs,n,by rw[e];exact h1,h2.of_heap e,h3,h4⟩
theorem qFF {B:Nat}{w:World}{tb:Nat}{sl:Value}{zs:List Int}{n:Nat}(h1:w.heap[tb]?=some (.cells #[sl,.int .i64 n] 51 (0,0)))(h2:Row B w sl (zs.map (Value.int .i64)))(h3:B<=tb)(h4:n<zs.length):
  uS B (w.setCell ⟨tb,1,none⟩ (.int .i64 ((n:Int)+1))) tb :=
 ⟨sl,zs,n+1,heap_setCell_same w tb 1 _ _ _ h1,h2.kept (zG w ⟨tb,1,none⟩ _) (by simp;omega),h3,h4⟩
def qPW (B tb:Nat)(w:World)(n:Int)(e:Ending)(w':World):Prop :=
 ∃r:Int,e=.returned (.int .i64 r)/\0<=r/\(1<=n->r<n)/\uS B w' tb/\w.grownBy w' (some tb)
theorem pU (B tb:Nat)(w:World)(n:Int)(hn:n<=9223372036854775807)(hT:uS B w tb):Calls Try.prog 7 #[.pointer (some ⟨tb,0,none⟩),.int .i64 n] w (qPW B tb w n):=by
 have HT:=Kh hT;obtain⟨sl,zs,at_,h0,h1,hB,h3⟩:=hT;have c0:w.cell? ⟨tb,0,none⟩=some sl:=by rw[cell_of_row w tb 0 _ _ _ h0];rfl
 have c1:w.cell? ⟨tb,1,none⟩=some (.int .i64 at_):=by rw[cell_of_row w tb 1 _ _ _ h0];rfl
 have f1:w.frozen? ⟨tb,1,none⟩=false:=frozen_of_row w tb 1 _ _ h0;rcases h1 with ⟨sa,sc,rfl,hz⟩|⟨b,off,cap,rfl,hbB,hlc,hcm,hra⟩
 ·have HR:=Kh hz;have:zs=[]:=by simpa using hz
  subst this;have:at_=0:=by simpa using h3
  subst this;clear h0 hz;go_enter Try.func7,Try.ntmps7;go_wp2
  go_quiet (fail)
  go_wp2;go_ret;exact⟨0,rfl,by omega,by omega,HT.out.kept (zT _ _ none) (by simp),zT _ _ _⟩
 rw[List.length_map]at hlc c0;by_cases hlt:at_<zs.length
 ·have hc:=hra.2 at_ (by simpa using hlt)
  have h4:b≠tb:=(by omega);have h2:zs.length<=9223372036854775807:=by unfold maxLen at hcm;omega
  simp only[List.getElem_map]at hc;have HB:=Kh h0;have HR:=Kh hra;clear h0 hra;go_enter Try.func7,Try.ntmps7;go_wp2
  go_quiet (fail)
  go_wp2;have e1:IntKind.i64.wrap (at_:Int)=at_:=IntWalk.i64_in _ (by omega);have e2:(at_:Int)<zs.length:=by omega
  go_quiet ((go_at_call 17;first|exact qDP (qGT _ _ _ hn)|exact gZ (qGT _ _ _ hn)))
  go_wp2;go_ret;refine⟨modI zs[at_] n,rfl,qAX _ _,qMY _ _,?_,?_⟩
  ·exact uS.of_heap (qFF HB.out (.inr ⟨b,off,cap,by rw[List.length_map],hbB,by simpa using hlc,hcm,HR.out⟩) hB hlt) rfl
  exact wT (zG w ⟨tb,1,none⟩ _) rfl rfl rfl rfl
 have h2:zs.length<=9223372036854775807:=by unfold maxLen at hcm;omega
 clear h0 hra;go_enter Try.func7,Try.ntmps7;go_wp2
 go_quiet (fail)
 go_wp2;go_ret;exact⟨0,rfl,by omega,by omega,HT.out.kept (zT _ _ none) (by simp),zT _ _ _⟩
def qIO (B:Nat)(w:World)(e:Ending)(w':World):Prop :=
 e=.returned (.pointer (some ⟨w.heap.size,0,none⟩))/\uS B w' w.heap.size/\w.grownBy w' none
theorem dW {B:Nat}{w:World}{sl:Value}{zs:List Int}(h:Row B w sl (zs.map (Value.int .i64)))(hB:B<=w.heap.size):
  qIO B w (.returned (.pointer (some ⟨w.heap.size,0,none⟩))) (w.alloc (.cells #[sl,.int .i64 0] 51)) :=
 ⟨rfl,⟨sl,zs,0,heap_alloc_new w _,h.kept (Ga w _ none) (by simp),hB,Nat.zero_le _⟩,Ga w _ none⟩
theorem Row.cut {B:Nat}{w:World}{b off cap:Nat}{xs:List Value}(n:Nat)(hn:n<=xs.length)(hb:b<B)(hc:xs.length<=cap)(hm:cap<=maxLen)(h:vO w b off xs):
  Row B w (.slice (some ⟨b,off,none⟩) n cap) (xs.take n) :=
 .inr ⟨b,off,cap,by rw[List.length_take,Nat.min_eq_left hn],hb,by rw[List.length_take];omega,hm,h.1,fun i hi=>by
  rw[List.length_take]at hi
  rw[h.2 i (by omega),List.getElem_take]⟩
theorem qAW (B:Nat)(w:World)(sl:Value)(zs:List Int)(h:Row B w sl (zs.map (Value.int .i64)))(hB:B<=w.heap.size):Calls Try.prog 6 #[sl] w (qIO B w):=by
 have HH:=Kh h;rcases h with ⟨sa,sc,rfl,hz⟩|⟨b,off,cap,rfl,hbB,hlc,hcm,hra⟩
 ·have HZ:=Kh hz;clear hz
  go_enter Try.func6,Try.ntmps6;go_wp2;go_ret;exact dW HH.out hB
 rw[List.length_map]at *;have h0:cap<=9223372036854775807:=by unfold maxLen at hcm;omega
 by_cases h80:80<zs.length
 ·go_enter Try.func6,Try.ntmps6
  go_wp2;go_ret;refine dW (zs:=zs.take 80) ?_ hB;rw[List.map_take];exact Row.cut 80 (by simp;omega) hbB (by simpa using hlc) hcm hra
 go_enter Try.func6,Try.ntmps6;go_wp2;go_ret;exact dW HH.out hB
theorem qHW:ElemOk Try.prog 30 5 (.int .u8 0) 1:=⟨Try.underlying30,by kernel_rfl,rfl⟩
def qMU (letters:Int)(n:Int):Prop:=97<=n/\n<97+letters
def qON (B tb:Nat)(w:World)(letters most:Int)(e:Ending)(w':World):Prop :=
 ∃l:List Int,e=.returned (.string (strOfNums l))/\(l.length:Int)<=most/\(∀n∈l,qMU letters n)/\uS B w' tb/\w.grownBy w' (some tb)
theorem qIS (B tb:Nat)(w:World)(a9 a8:Int)(h1:1<=a9)(h6:a9<=6)(h0:0<=a8)(hm:a8<=1000)(hT:uS B w tb):Calls Try.prog 9 #[.pointer (some ⟨tb,0,none⟩),.int .i64 a9,.int .i64 a8] w (qON B tb w a9 a8):=by
 have H8:=hT.lt;go_enter Try.func9,Try.ntmps9;go_wp2_with fail;refine(pU B tb _ _ (by omega) hT).mono ?_;rintro e w1 ⟨r,rfl,H3,H2,H7,H6⟩;replace H2:=H2 (by omega);go_wp2
 go_loopw [7,8] (fun v i wr=>∃(sa:Option Addr) (sc:Nat) (l:List Int) (r:Int),v=.slice sa l.length sc/\i=.int .i64 r/\0<=r/\(l.length:Int)+r<=a8/\wr.ownsRow w.heap.size 5 1 (.slice sa l.length sc) l.length (l.map (Value.int .u8))/\(∀n∈l,qMU a9 n)/\uS B wr tb/\w.grownBy wr (some tb))
  (fun _ i _=>(intOf i).toNat)
 case atStart=>exact⟨none,0,[],r,rfl,rfl,H3,by simp;omega,World.ownsRow_nil _ _ _ _,by simp,H7,H6⟩
 clear H7 H6;obtain⟨sa,sc,l,r,rfl,rfl,H3,a5,h4,H4,h9,h7⟩:=hrel;have a4:=h7.size;by_cases hp:0<r
 ·go_wp2_with fail
  refine(pU B tb _ _ (by omega) h9).mono ?_;rintro e w2 ⟨x,rfl,a3,H0,a2,h8⟩;replace H0:=H0 (by omega);have h2:=xW h4 h8 (by simpa using H8);have H9:=h8.size;go_wp2_with (at_builtin;refine app1 rfl _ _ _ rfl qHW w.heap.size _ l.length (l.map (Value.int .u8)) rfl h2 _ rfl rfl ?c1 ?c2 ?c3 ?_)
  case c1=>unfold maxLen;omega
  case c2=>omega
  case c3=>omega
  intro sa' sc' w3 h3 H5 a1;have h5:(l++[97+x]).length=l.length+1:=by simp
  have hb:=fun k (e:(Value.slice sa l.length sc).ownBlock=some k)=>(h2.lt k e).1;go_wp2;go_roundw
  case rel =>
   refine⟨sa',sc',l++[97+x],r-1,by rw[h5],by go_num,by omega,by omega,?_,?_,a2.kept H5 ?_,?_⟩
   ·rw[h5,List.map_append];exact h3
   ·intro n hn
    rcases List.mem_append.1 hn with hn|hn
    ·exact H4 n hn
    simp at hn;subst hn;exact⟨by omega,by omega⟩
   ·intro k e;have:=hb k e;have:=h9.ge;omega
   exact pX (zH h7 h8) H5 (.inr (.inl rfl)) (by
    rcases hv:(Value.slice sa l.length sc).ownBlock with _|k
    ·exact .inl rfl
    exact .inr (.inr ⟨k,rfl,hb k hv⟩))
  simp[intOf];omega
 have H1:=fun dst hd=>dH (P:=Try.prog) 30 5 Try.underlying30 Try.underlying5 dst hd h4;have a0:=H1 9 Try.underlying9;clear H1;go_wp2;go_ret;exact⟨l,rfl,by omega,H4,h9,h7⟩
theorem gW {s t:ByteArray}(h:s.data.toList.Perm t.data.toList)(k:Int):xV s k=xV t k:=by
 have h1:s.size=t.size:=by have:=h.length_eq;simpa using this
 unfold xV;rw[h1,h.all_eq]
theorem qBD {c:CntV}{s t:ByteArray}(h:s.data.toList.Perm t.data.toList):rL c s=rL c t:=by
 have h2:vN c.idx.length (yS s)=vN c.idx.length (yS t):=by
  unfold vN yS;refine List.map_congr_left fun a _=>?_;exact(h.map _).count_eq a
 unfold rL;rw[gW h,h2]
theorem qBE {c:CntV}{l m:List Int}(h:l.Perm m):rL c (strOfNums l)=rL c (strOfNums m) :=
 qBD (by rw[strOfNums_data,strOfNums_data];exact h.map _)
def BRow (w:World)(g:Nat)(l:List Int):Prop:=∃cs:Array Value,w.heap[g]?=some (.cells cs 5 (cs.size,cs.size+1))/\l.length<=cs.size/\∀j,j<l.length->cs[j]?=some (.int .u8 (l.getD j 0))
theorem BRow.cell {w:World}{g:Nat}{l:List Int}(h:BRow w g l){j:Nat}(hj:j<l.length):w.cell? ⟨g,j,none⟩=some (.int .u8 (l.getD j 0)):=by
 obtain⟨cs,h1,h2,h3⟩:=h;rw[zF h1 j (by omega),<-h3 j hj,Array.getElem?_eq_getElem]
theorem BRow.frozen {w:World}{g:Nat}{l:List Int}(h:BRow w g l){j:Nat}(hj:j<l.length):w.frozen? ⟨g,j,none⟩=false:=by
 obtain⟨cs,h1,h2,h3⟩:=h;simp only[World.frozen?,h1,Bool.and_eq_false_iff,decide_eq_false_iff_not];left;omega
theorem BRow.lt {w:World}{g:Nat}{l:List Int}(h:BRow w g l):g<w.heap.size:=by
 obtain⟨cs,h1,_⟩:=h;exact zR h1
theorem BRow.kept {w w':World}{g:Nat}{l:List Int}{row:Option Nat}(h:BRow w g l)(hg:w.grownBy w' row)(hr:row≠some g):BRow w' g l:=by
 have hl:=h.lt;obtain⟨cs,h1,h2,h3⟩:=h;exact⟨cs,(hg.block g hl (fun e=>hr e.symm)).trans h1,h2,h3⟩
theorem BRow.set {w:World}{g:Nat}{l:List Int}(h:BRow w g l){j:Nat}(hj:j<l.length)(x:Int):BRow (w.setCell ⟨g,j,none⟩ (.int .u8 x)) g (l.set j x):=by
 obtain⟨cs,h1,h2,h3⟩:=h;refine⟨cs.setIfInBounds j (.int .u8 x),by simp[World.setCell,Array.getElem?_modify,h1],by simpa using h2,fun i hi=>?_⟩;rw[List.length_set]at hi;rw[Array.getElem?_setIfInBounds];by_cases e:j=i
 ·subst e;rw[if_pos rfl,if_pos (by omega),List.getD_eq_getElem?_getD,List.getElem?_set_self hj];rfl
 rw[if_neg e,h3 i hi,List.getD_eq_getElem?_getD,List.getD_eq_getElem?_getD,List.getElem?_set_ne e]
theorem BRow.text {w:World}{g n cap:Nat}{l:List Int}(h:BRow w g l)(hn:l.length=n):(convert 30 9 (.slice (some ⟨g,0,none⟩) n cap)).run Try.prog w=.ok (.string (strOfNums l)) w:=by
 refine run_convert_bytes_arg w 30 5 Try.underlying30 Try.underlying5 g 0 n cap l hn (fun i hi=>?_) _ Try.underlying9;rw[Nat.zero_add];exact h.cell (by omega)
theorem qIE (w:World)(l:List Int)(hl:∀n∈l,0<=n/\n<256):∃w' cap,(convert 9 30 (.string (strOfNums l))).run Try.prog w=.ok (.slice (some ⟨w.heap.size,0,none⟩) l.length cap) w'/\BRow w' w.heap.size l/\w.grownBy w' none:=by
 refine⟨_,_,by rw[Go.Lib.run_convert_string_bytes w 9 30 5 (strOfNums l) Try.underlying9 Try.underlying30 Try.underlying5,strOfNums_size],?_,?_⟩
 ·refine⟨_,Go.Lib.bytesWorld_at_new w _ _,by simp[Go.Lib.bytesCells,strOfNums],fun j hj=>?_⟩
  have hs:j<(strOfNums l).size:=by rw[strOfNums_size];exact hj
  have hc:=Go.Lib.bytesWorld_cell w 5 (strOfNums l) j hs;have hb:=zF (Go.Lib.bytesWorld_at_new w 5 (strOfNums l)) j (by simp[Go.Lib.bytesCells,strOfNums];omega);rw[hc]at hb;rw[Array.getElem?_eq_getElem (by simp[Go.Lib.bytesCells,strOfNums];omega),<-Oj hb];congr 3;rw[strOfNums_data,List.getD_eq_getElem?_getD,List.getElem?_map,List.getElem?_eq_getElem hj,List.getD_eq_getElem?_getD,List.getElem?_eq_getElem hj];simp only[Option.map_some,Option.getD_some];have:=hl _ (List.getElem_mem hj);rw[UInt8.toNat_ofNat'];omega
 exact⟨rfl,rfl,rfl,by rw[Go.Lib.bytesWorld_size];omega,fun k hk _=>Go.Lib.bytesWorld_at_old w _ _ k hk⟩
end Go.Proofs.Ytobakifdllameaa
namespace Go.Proofs.Ytobakifdllameaa
def aP (n:Nat):Code->Option Code
 | .block i c=>if i=n then some c else aP n c
 | .seq a b=>match aP n a with
  | some c=>some c
  | none=>aP n b
 | .cond _ a b=>match aP n a with
  | some c=>some c
  | none=>aP n b
 | .loop c=>aP n c
 | .scope c=>aP n c
 | _=>none
noncomputable def blk (f:Func)(n:Nat):Code:=(f.body.bind (aP n)).getD .skip
def aO (n:Nat):Code->Option Code
 | .region i o d=>if i=n then some (.region i o d) else none
 | .block _ c=>aO n c
 | .seq a b=>match aO n a with
  | some c=>some c
  | none=>aO n b
 | .cond _ a b=>match aO n a with
  | some c=>some c
  | none=>aO n b
 | .loop c=>aO n c
 | .scope c=>aO n c
 | _=>none
noncomputable def reg (f:Func)(n:Nat):Code:=(f.body.bind (aO n)).getD .skip
open Go.RowKit
theorem bL {P:Program}{ops:Array Oper}{o:Oper}{a:Act}{w:World}{K:Act->World->Prop}{Q:Exit->Act->World->Prop}{R:Prop}(a4:o.guard=none)(s x:Operand)(t:TypeId)(ho:o.op=.call { callee:=.builtin .append,args:=#[s,x],argTypes:=#[t,t] }){e:TypeId}{z:Value}{a9:Nat}(E:ElemOk P t e z a9)(base:Nat)(v:Value)(n:Nat)(xs:List Value)(hs:a.eval s=v)(a6:w.ownsRow base e 1 v n xs)(u:Value)(blk:Nat)(m:Nat×Nat)(hx:a.eval x=.slice (some ⟨blk,0,none⟩) 1 1)(a5:w.heap[blk]?=some (.cells #[u] e m))(h1:u.oneCell'=true)(a3:n+1<=maxLen)(a8:(n+1)*a9<=140737488355328)(a7:base<=w.heap.size)(h:∀sa sc w',w'.ownsRow base e 1 (.slice sa (n+1) sc) (n+1) (xs++[u])->w.grownBy w' v.ownBlock->K (a.put o.dst (.slice sa (n+1) sc)) w'):
  if Region.wanted o (yielded ops a.tmps)=true then Oper.wp P o a w K Q else R:=by
 have hw:Region.wanted o (yielded ops a.tmps)=true:=by simp[Region.wanted,a4]
 rw[if_pos hw];obtain⟨i,hi,hz,h0,h3⟩:=info_parts E.hi;refine wp_append_own w s x t ho base e i z 1 a9 E.ht hi hz h0 h3 E.hz (by decide) v n xs hs a6 ⟨blk,0,none⟩ 1 1 [u] hx rfl ?_ ?_ a3 a8 a7 ?_
 ·intro j u' hj
  match j,hj with
  | 0,hj=>simp at hj;subst hj;simpa [Addr.add] using zF a5 0
 ·intro u' hu;simp at hu;subst hu;exact h1
 ·intro v' w' h1 h2 _
  obtain⟨sa,sc,rfl⟩:=rZ h1;exact h sa sc w' h1 h2
theorem qEZ {P:Program}{w:World}{o:Oper}{a:Act}{K:Act->World->Prop}{Q:Exit->Act->World->Prop}(s x:Operand)(t:TypeId)(ho:o.op=.call { callee:=.builtin .append,args:=#[s,x],argTypes:=#[t,t] }){e:TypeId}{sz:Nat}{z:Value}{a9:Nat}(E:ElemN P t e sz z a9)(base:Nat)(v:Value)(n:Nat)(xs:List Value)(hs:a.eval s=v)(a6:w.ownsRow base e sz v n xs)(us:List Value)(g:Nat)(hx:a.eval x=.slice (some ⟨g,0,none⟩) 1 1)(m:Nat×Nat)(a4:us.length=sz)(hg:w.heap[g]?=some (.cells us.toArray e m))(h1:∀u∈us,u.oneCell'=true)(a5:n+1<=maxLen)(a8:(n+1)*a9<=140737488355328)(a7:base<=w.heap.size)(h:∀sa sc w',w'.ownsRow base e sz (.slice sa (n+1) sc) (n+1) (xs++us)->w.grownBy w' v.ownBlock->lF w w' v (.slice sa (n+1) sc)->K (a.put o.dst (.slice sa (n+1) sc)) w'):o.wp P a w K Q:=by
 have h5:∀j,(⟨g,0,none⟩:Addr).add j=⟨g,j,none⟩:=fun j=>by unfold Addr.add;split<;>simp_all
 have h0:uQ w sz (.slice (some ⟨g,0,none⟩) 1 1) 1 us:=.inr ⟨g,0,1,rfl,by omega,by unfold maxLen;omega,fun i u hi=>by
  obtain⟨hl,e⟩:=List.getElem?_eq_some_iff.1 hi;have:=zF hg i (by simpa using hl)
  rw[Nat.zero_add,this];simpa using e⟩
 obtain⟨v',w',hr,h2,h3,h4⟩:=sM (P:=P) base t o.type E v n xs a6 _ 1 us h0 h1 a5 a8 a7;obtain⟨sa,sc,rfl⟩:=jB h2;unfold Oper.wp execOp;simp only[ho,resolve,invoke,builtin,Sem.run_bind,Sem.run_pure,Result.andThen_ok,List.map_toArray,List.map_cons,List.map_nil,hs,hx,hr];exact h sa sc w' h2 h3 h4
theorem rH {P:Program}{ops:Array Oper}{w:World}{o:Oper}{a:Act}{K:Act->World->Prop}{Q:Exit->Act->World->Prop}{R:Prop}(a4:o.guard=none)(s x:Operand)(t:TypeId)(ho:o.op=.call { callee:=.builtin .append,args:=#[s,x],argTypes:=#[t,t] }){e:TypeId}{sz:Nat}{z:Value}{a9:Nat}(E:ElemN P t e sz z a9)(base:Nat)(v:Value)(n:Nat)(xs:List Value)(hs:a.eval s=v)(a6:w.ownsRow base e sz v n xs)(us:List Value)(g:Nat)(hx:a.eval x=.slice (some ⟨g,0,none⟩) 1 1)(m:Nat×Nat)(a5:us.length=sz)(hg:w.heap[g]?=some (.cells us.toArray e m))(h1:∀u∈us,u.oneCell'=true)(a3:n+1<=maxLen)(a8:(n+1)*a9<=140737488355328)(a7:base<=w.heap.size)(h:∀sa sc w',w'.ownsRow base e sz (.slice sa (n+1) sc) (n+1) (xs++us)->w.grownBy w' v.ownBlock->lF w w' v (.slice sa (n+1) sc)->K (a.put o.dst (.slice sa (n+1) sc)) w'):if Region.wanted o (yielded ops a.tmps)=true then Oper.wp P o a w K Q else R:=by
 have hw:Region.wanted o (yielded ops a.tmps)=true:=by simp[Region.wanted,a4]
 rw[if_pos hw];exact qEZ s x t ho E base v n xs hs a6 us g hx m a5 hg h1 a3 a8 a7 h
theorem rW {P:Program}{w:World}{ops:Array Oper}{a7:List Oper}{o:Oper}{a:Act}{Q:Exit->Act->World->Prop}(a3:o.guard=none)(s x:Operand)(t:TypeId)(ho:o.op=.call { callee:=.builtin .append,args:=#[s,x],argTypes:=#[t,t] }){e:TypeId}{sz:Nat}{z:Value}{a9:Nat}(E:ElemN P t e sz z a9)(base:Nat)(v:Value)(n:Nat)(xs:List Value)(hs:a.eval s=v)(a6:w.ownsRow base e sz v n xs)(us:List Value)(hx:a.eval x=.slice (some ⟨w.heap.size,0,none⟩) 1 1)(a4:us.length=sz)(h1:∀u∈us,u.oneCell'=true)(a2:n+1<=maxLen)(a8:(n+1)*a9<=140737488355328)(a5:base<=w.heap.size)(h:∀sa sc w',w'.ownsRow base e sz (.slice sa (n+1) sc) (n+1) (xs++us)->w.grownBy w' v.ownBlock->lF w w' v (.slice sa (n+1) sc)->wpList P ops Q a7 (a.put o.dst (.slice sa (n+1) sc)) w'):
  wpList P ops Q (o::a7) a (w.alloc (.cells us.toArray e)) :=
 wpList_plain a3 fun _ hK=>qEZ s x t ho E base v n xs hs (a6.alloc _) us w.heap.size hx (0,0) a4 (heap_alloc_new w _) h1 a2 a8 (by simp;omega) fun sa sc w' h2 h3 h4=>hK _ _ (h sa sc w' h2 (zH (Ga w _ _) h3) (by
  rcases h4 with h4|⟨h4,h5⟩
  ·exact .inl h4
  ·exact .inr ⟨zH (Ga w _ none) h4,fun k hk=>by have:=h5 k hk;rw[zW]at this;omega⟩))
def tS (n:Nat)(l:List Nat):List Int:=(List.range n).map fun q=>rP l q
theorem vJ (n:Nat)(l:List Nat):(tS n l).length=n:=by simp[tS]
theorem fY {n:Nat}{l:List Nat}{q:Nat}(h:q<n):(tS n l).getD q 0=rP l q:=by
 rw[zN (by rw[vJ];exact h)];simp[tS]
theorem fX (n:Nat):tS n []=List.replicate n (-1):=by
 refine List.ext_getElem (by simp[tS]) fun i h1 h2=>by simp[tS,rP]
theorem fW {n:Nat}{l:List Nat}{q:Nat}(hq:q ∉ l):(tS n l).set q (l.length:Int)=tS n (l++[q]):=by
 refine List.ext_getElem (by simp[tS]) fun i h1 h2=>?_;rw[List.getElem_set];simp only[tS,List.getElem_map,List.getElem_range,rP];by_cases e:q=i
 ·subst e
  rw[if_pos rfl,if_pos (by simp),List.idxOf_append,if_neg hq];simp
 rw[if_neg e];by_cases hi:i∈l
 ·rw[if_pos hi,if_pos (by simp[hi]),List.idxOf_append,if_pos hi]
 rw[if_neg hi,if_neg (by simp[hi,Ne.symm e])]
def kQ (n k:Nat):List Int:=List.replicate k (-1)++List.replicate (n-k) 0
theorem qR {n k:Nat}(h:k<=n):(kQ n k).length=n:=by simp[kQ];omega
theorem aR {n k:Nat}(h:k<n):(kQ n k).set k (-1)=kQ n (k+1):=by
 unfold kQ;rw[List.set_append_right _ _ (by simp),List.length_replicate,Nat.sub_self,show n-k=(n-(k+1))+1 by omega,List.replicate_succ,List.set_cons_zero,List.replicate_succ',List.append_assoc];rfl
def qOO (w:World)(m:DfaV)(e:Ending)(w':World):Prop:=∃v p,e=.returned (.tuple #[v,p])/\tJ w w' v m/\w.grownBy w' none
def oH (d:DfaV)(l:List Nat)(i:Nat):List Bool:=(l.take i).map fun q=>d.final.getD q false
def oF (d:DfaV)(l:List Nat)(i:Nat):List (List Int):=(l.take i).map fun q=>wO l (d.next.getD q [])
theorem qAL {d:DfaV}{l:List Nat}{i:Nat}(h:i<l.length):oH d l (i+1)=oH d l i++[d.final.getD (l.getD i 0) false]:=by
 simp only[oH,yF (d:=0) h,List.map_append,List.map_cons,List.map_nil]
theorem qAJ {d:DfaV}{l:List Nat}{i:Nat}(h:i<l.length):oF d l (i+1)=oF d l i++[wO l (d.next.getD (l.getD i 0) [])]:=by
 simp only[oF,yF (d:=0) h,List.map_append,List.map_cons,List.map_nil]
theorem eZ {d:DfaV}{l:List Nat}{i:Nat}(h:i<=l.length):(oH d l i).length=i:=by simp[oH];omega
theorem eY {d:DfaV}{l:List Nat}{i:Nat}(h:i<=l.length):(oF d l i).length=i:=by simp[oF];omega
theorem qAK {d:DfaV}{n k:Nat}(hd:VD d n k){l:List Nat}{q a:Nat}(hq:q<n)(ha:a<k):(wO l (d.next.getD q [])).getD a 0=rP l (nx d q a):=by
 rw[wO,xS (x:=0) (by rw[hd.row q hq];exact ha)];rfl
theorem mQ {d:DfaV}{n k:Nat}(hd:VD d n k){l:List Nat}{q:Nat}(hq:q<n):(wO l (d.next.getD q [])).length=k:=by rw[wO,List.length_map,hd.row q hq]
theorem aM (l:List Int)(x:Int):ints (l++[x])=ints l++[.int .i64 x]:=by simp[ints]
theorem qJA (B:Nat)(w:World)(v:Value)(d:DfaV)(n k:Nat)(hB:B<=w.heap.size)(h:rB B w v d)(hd:VD d n k):Calls Try.prog 60 #[v] w (qOO w (wG d k)):=by
 have a4:=h;obtain⟨fb,fo,fc,b,off,cap,RB,RO,RC,rfl,b6⟩:=h.at hd;have hn:=hd.hn;have n7:=hd.n1;have i9:=hd.nbig;have o6:=hd.k6;have o7:=hd.k1;have p1:=b6.fcap.1;have c9:=b6.fcap.2;have p2:=b6.cap.1;have d4:=b6.cap.2;have m0:fc<=9223372036854775807:=by unfold maxLen at c9;omega
 have l9:cap<=9223372036854775807:=by unfold maxLen at d4;omega
 obtain⟨S,hS⟩:=Nm (st0 d);have p9:=Kh hS;have i3:dAgg k (st0 d) fb fo fc b off cap n=.agg #[.int .i64 (k:Int),.int .i64 (S:Int),.slice (some ⟨fb,fo,none⟩) n fc,.slice (some ⟨b,off,none⟩) n cap]:=by rw[hS];rfl
 rw[i3]at a4⊢;obtain⟨d5,e8,c7,i2⟩:=pF w #[.int .i64 (k:Int),.int .i64 (S:Int),.slice (some ⟨fb,fo,none⟩) n fc,.slice (some ⟨b,off,none⟩) n cap] #[.int .i64 0,.int .i64 0,.slice none 0 0,.slice none 0 0] 37;obtain⟨wA,f8⟩:=Nm ((w.alloc (.cells #[.int .i64 (k:Int),.int .i64 (S:Int),.slice (some ⟨fb,fo,none⟩) n fc,.slice (some ⟨b,off,none⟩) n cap] 37)).alloc (.cells #[.int .i64 0,.int .i64 0,.slice none 0 0,.slice none 0 0] 37));rw[<-f8]at d5 e8 c7 i2;obtain⟨c0,c1,c2,c3⟩:=zP d5;obtain⟨P,hP⟩:=Nm w.heap.size;have g5:=Kh hP;rw[<-hP]at d5 e8 c0 c1 c2 c3 i2 hB;obtain⟨f1,n2,m7,m4⟩:=K4 d5 e8 c7 f8;have n3:=Kh (b6.kept c7 (by simp));have HN:=Kh hn;have HD:=Kh hd;have l1:=Kh (qEV B wA _ d n k (by omega) (a4.kept c7 (by simp)) hd);clear d5 e8 c7 f8 b6 hn hd h a4 i3 c9 d4 hS;go_enter Try.func60,Try.ntmps60;go_upto_region 1 with fail;rw[<-m4.out,<-g5.out];clear hP;go_wp2_with fail;refine l1.out.mono ?_;rintro e w1 ⟨sa,sc,vw,rfl,h9,e7⟩;obtain⟨H5,m2⟩:=xZ HD.out;obtain⟨l,hl⟩:=Nm (yH d k);have HL:=Kh hl;rw[<-hl]at h9 H5 m2⊢;have H4:=H5.hd.1;obtain⟨gl,rfl,o5,o4,d6⟩:=yY h9 H4;have o9:=(h9.lt gl rfl).1;obtain⟨i1,b8,b3⟩:=K3 d6 e7 H5;have n5:=e7.size;obtain⟨d0,d1,d2,d3⟩:=zP (zB f1.out e7);clear hl h9 d6 e7 H5 l1 c0 c1 c2 c3;go_wp2_with (first|(at_make;refine qV rfl _ _ _ rfl yI rfl .i64 .i64 _ _ n rfl rfl rfl rfl ?b1 ?b2 ?_;(case b1=>omega);(case b2=>(unfold maxLen;omega));intro w2 h4 j4 f5)|fail);obtain⟨G,hG⟩:=Nm w1.heap.size;rw[<-hG]at h4 f5⊢;obtain⟨l2,k7,g8⟩:=K3 h4 j4 hG;have p5:P+1<G:=by omega
 clear h4 j4 hG d0 d1 d2 d3
 go_loopg [7,27] n (fun gh a7 i wr=>∃q:Nat,gh+q=n/\i=.int .i64 q/\Arr wr G 3 (ints (kQ n q))/\w1.grownBy wr none)
 case atStart=>exact⟨0,rfl,rfl,by simpa [kQ,qW] using l2.out,k7.out⟩
 clear l2 k7;obtain⟨q,hg,rfl,h4,h5⟩:=hrel;obtain⟨HG,HA,H0⟩:=K3 hg h4 h5;clear hg;by_cases hq:q<n
 ·have l7:(q:Int)<n:=by omega
  have cgk:=h4.int q (by rw[qR (by omega)];exact hq);have fgk:=h4.frozen q;have HS:=Kh (aR hq);clear h4 h5;go_wp2;go_roundg (n-(q+1))
  case measure=>have:=HG.out;omega
  refine⟨q+1,by omega,by go_num,?_,zC H0.out (zG wr ⟨G,q,none⟩ _) (fun q e=>by have h7:G=q:=Oj e;have:=g8.out;omega)⟩;rw[<-HS.out];exact HA.out.int_set q (by rw[qR (by omega)];exact hq) (-1)
 have i5:q=n:=by have:=HG.out;omega
 have HF:Hid (kQ n q=tS n (l.take 0)):=Kh (by rw[i5,List.take_zero,fX];simp[kQ]);rw[HF.out]at HA;have g7:=H0;clear i5 h4 h5 HG;obtain⟨w3,rfl⟩:=Nm (wr:World);go_wp2
 go_loopg [8,9,36] l.length (fun gh a8 a9 i wr=>∃q:Nat,gh+q=l.length/\i=.int .i64 q/\Arr wr G 3 (ints (tS n (l.take q)))/\w1.grownBy wr none)
 case atStart=>exact⟨0,rfl,rfl,HA.out,H0.out⟩
 clear HA H0 HF;obtain⟨q,hg,rfl,h4,h5⟩:=hrel;obtain⟨HG,HA,H0⟩:=K3 hg h4 h5;clear hg;by_cases hq:q<l.length
 ·have l7:(q:Int)<l.length:=by omega
  have cl:=(i1.out.kept h5 (by simp)).nat q hq;have f3:l.getD q 0<n:=b3.out.lt _ (by rw[zN hq];exact List.getElem_mem _);have e5:l.take (q+1)=l.take q++[l.getD q 0]:=yF hq
  have a0:l.getD q 0 ∉ l.take q:=by
   have h1:=b3.out.nd;have h2:(l.take (q+1)).Nodup:=h1.sublist (List.take_sublist _ _);rw[e5,List.nodup_append]at h2;exact fun hm=>h2.2.2 _ hm _ (by simp) rfl
  obtain⟨s,hs⟩:=Nm (l.getD q 0);rw[<-hs]at cl f3 e5 a0;have l4:(s:Int)<n:=(by omega);have cgk:=h4.int s (by rw[vJ];exact f3);have fgk:=h4.frozen s
  have HS:Hid ((tS n (l.take q)).set s (q:Int)=tS n (l.take (q+1))):=Kh (by
   have:=fW (n:=n) a0;rw[List.length_take,Nat.min_eq_left (by omega)]at this
   rw[this,e5])
  clear h4 h5 e5 a0 hs;go_wp2;go_roundg (l.length-(q+1))
  case measure=>have:=HG.out;omega
  refine⟨q+1,by omega,by go_num,?_,zC H0.out (zG wr ⟨G,s,none⟩ _) (fun q e=>by have h7:G=q:=Oj e;have:=g8.out;omega)⟩;rw[<-HS.out];exact HA.out.int_set s (by rw[vJ];exact f3) (q:Int)
 have i6:q=l.length:=by have:=HG.out;omega
 have i8:l.take q=l:=by rw[i6];exact List.take_length
 rw[i8]at HA h4;have k2:=Kh h4;have h8:=Kh h5;clear i6 i8 h4 HA HG h5 g7;obtain⟨w4,rfl⟩:=Nm (wr:World);obtain⟨d0,d1,d2,d3⟩:=zP (zB (zB f1.out b8.out) h8.out);go_upto_region 14 with fail;obtain⟨O,hO⟩:=Nm w4.heap.size;obtain⟨w6,e4⟩:=Nm (w4.alloc (.cells #[.int .i64 (k:Int),.int .i64 0,.slice none 0 0,.slice none 0 0] 37));rw[<-e4,<-hO];have a2:w4.grownBy w6 none:=(by rw[e4];exact Ga w4 _ none);have j6:w6.heap[O]?=some (.cells #[.int .i64 (k:Int),.int .i64 0,.slice none 0 0,.slice none 0 0] 37 (0,0)):=by rw[e4,hO];exact heap_alloc_new w4 _
 have k0:Built O w6 O k 0 [] [] [] none 0 none 0:=⟨j6,World.ownsRow_nil _ _ _ _,World.ownsRow_nil _ _ _ _,tG.nil,rfl⟩;obtain⟨k9,e0,d8⟩:=K3 k0 a2 hO;have p6:G<O:=(by rw[hO];have:=k2.out.lt;omega);have p4:P+1<O:=(by omega);have l3:=a2.size;clear d0 d1 d2 d3 j6 k0 a2 e4 hO;go_wp2
 go_loopg [51] l.length (fun gh i wr=>∃(i':Nat) (hs:List Value) (sf:Option Addr) (cf:Nat) (sn:Option Addr) (cn:Nat),gh+i'=l.length/\i=.int .i64 i'/\Built O wr O k 0 (oH d l i') (oF d l i') hs sf cf sn cn/\w4.grownBy wr (some O))
 case atStart=>exact⟨0,[],none,0,none,0,rfl,rfl,k9.out,wR e0.out⟩
 clear k9 e0;obtain⟨i,hs,sf,cf,sn,cn,hg,rfl,a6,h5⟩:=hrel;obtain⟨k5,e1,H0⟩:=K3 hg a6 h5;have n4:=h5.size;clear hg;by_cases hi:i<l.length
 ·have o8:(i:Int)<l.length:=by omega
  have b7:O≠P:=(by omega);have f6:O≠gl:=(by have:=i1.out.lt;have:=g8.out;omega);have c6:∀x,Hid (x<w4.heap.size->x≠O):=fun x=>Kh (fun h e=>by have:=d8.out;omega);have cl:=((i1.out.kept h8.out (by simp)).kept h5 (fun e=>f6 (Oj e))).nat i hi;have H3:l.getD i 0<n:=b3.out.lt _ (by rw[zN hi];exact List.getElem_mem _);have f0:=Kh (qAL (d:=d) hi);have f9:=Kh (qAJ (d:=d) hi);have a3:=eZ (d:=d) (Nat.le_of_lt hi);have H7:=eY (d:=d) (Nat.le_of_lt hi);obtain⟨q0,i7⟩:=Nm (l.getD i 0);rw[<-i7]at cl H3 f0 f9;have l6:(q0:Int)<n:=(by omega);have p7:B<=O:=by omega
  have hA:=((n3.out.kept b8.out (by simp)).kept h8.out (by simp)).kept h5 (fun k e=>by have:=Oj e;omega);have ch:=hA.hd q0 H3;obtain⟨d0,d1,d2,d3⟩:=zP (zB (zB (zB f1.out b8.out) h8.out) h5 (fun e=>b7 (Oj e)));obtain⟨wo,rfl⟩:=Nm (wr:World);have i0:=Kh hA;clear hA a6 h5 i7;go_wp2
  go_loopg [13,61] k (fun gh ov i wr=>∃(a:Nat) (sr:Option Addr) (cr:Nat),gh+a=k/\i=.int .i64 a/\ov=.slice sr a cr/\wr.ownsRow wo.heap.size 3 1 (.slice sr a cr) a (ints ((wO l (d.next.getD q0 [])).take a))/\wo.grownBy wr none)
  case atStart=>exact⟨0,none,0,rfl,rfl,rfl,by simpa [ints] using World.ownsRow_nil _ _ _ _,yD _ _⟩
  obtain⟨a,sr,cr,hg,rfl,rfl,c4,h5⟩:=hrel;obtain⟨k4,H6,g6⟩:=K3 hg c4 h5;clear hg c4 d0 d1 d2 d3;by_cases ha:a<k
  ·have p3:(a:Int)<k:=by omega
   have hA:=i0.out.kept h5 (by simp);have ce:=hA.el q0 a H3 ha;have n6:=(hA.rcap q0 H3).1;have f4:=oY HD.out H3 ha;have cp:=(((k2.out.kept H0.out (fun e=>by have:=Oj e;omega)).kept h5 (by simp))).int (nx d q0 a) (by rw[vJ];exact f4);rw[fY f4]at cp
   have g1:Hid ((wO l (d.next.getD q0 [])).take (a+1)=(wO l (d.next.getD q0 [])).take a++[rP l (nx d q0 a)]):=Kh (by
    rw[yF (d:=0) (by rw[mQ HD.out H3];exact ha),qAK HD.out H3 ha])
   obtain⟨s,hs⟩:=Nm (nx d q0 a);rw[<-hs]at ce f4 cp g1;obtain⟨c,hc⟩:=Nm (rP l s);rw[<-hc]at cp g1;have e6:=h5.size;have l8:(s:Int)<n:=(by omega);clear hA hs hc h5;go_wp2_with (first|(at_builtin;refine app1 rfl _ _ _ rfl yI wo.heap.size _ a (ints ((wO l (d.next.getD q0 [])).take a)) rfl H6.out _ rfl rfl ?c1 ?c2 ?c3 ?_)|fail)
   case c1=>unfold maxLen;omega
   case c2=>omega
   case c3=>exact e6
   intro sa' sc' w6 H8 j3 m1;have m6:=Kh H8;have m9:=Kh j3;clear H8 j3;go_wp2;go_roundg (k-(a+1))
   case measure=>have:=k4.out;omega
   refine⟨a+1,sa',sc',by omega,by go_num,rfl,?_,zC g6.out m9.out (fun q e=>(H6.out.lt q e).1)⟩;rw[g1.out,aM];exact m6.out
  have j7:a=k:=by have:=k4.out;omega
  have i4:(wO l (d.next.getD q0 [])).take a=wO l (d.next.getD q0 []):=by rw[j7,<-mQ HD.out (l:=l) H3];exact List.take_length
  rw[i4]at H6;obtain⟨w5,f2⟩:=Nm wr.drew;have m5:=Kh f2;have a1:wr.grownBy w5 none:=(by rw[f2];exact zY wr none);have b0:=Kh ((e1.out.grow h5).grow a1);have g2:Hid (RowT w5.heap.size 3 w5 (.slice sr a cr) (ints (wO l (d.next.getD q0 [])))):=Kh (RowT.of_owns (xW H6.out a1 (by simp)));have n0:=Kh (zH H0.out (wR (zH h5 a1) (row:=some O)));have j9:=b0.out.box;have H1:=Kh j9;have k3:=Kh b0.out.notbox;have b4:O<=w5.heap.size:=by have:=h5.size;have:=a1.size;have:=d8.out;omega
  have cq:=(((i0.out.kept h5 (by simp)).kept a1 (by simp))).fin H3;obtain⟨_,_,d2,_⟩:=zP (zB (zB (zB (zB (zB f1.out b8.out) h8.out) H0.out (fun e=>b7 (Oj e))) h5) a1);have p0:=i0.out.flt;have m3:O≠fb:=(by omega);obtain⟨bq,j5⟩:=Nm (d.final.getD q0 false);rw[<-j5]at cq f0;obtain⟨fsl,c8⟩:=Nm (oH d l i);obtain⟨tsl,b9⟩:=Nm (oF d l i);rw[<-c8]at b0 H1 f0 a3;rw[<-b9]at b0 H1 f9 H7;have q4:=Kh a3;have p8:=Kh H7;obtain⟨m,hm⟩:=Nm i;rw[<-hm]at a3 H7;have g0:=Kh H7;have j8:=b0.out.many
  have hM:Many w5 (FB sf sn) w5 [⟨O,22,.slice sn m cn,m,hs,1⟩,⟨O,4,.slice sf m cf,m,bls fsl,1⟩] [] []:=by
   have h1:=j8;simp only[rN,rF,a3,H7]at h1;exact h1
  have l0:Hid (∀W:World,(W.cell? ⟨P,2,none⟩=some (.slice (some ⟨fb,fo,none⟩) n fc)/\W.cell? ⟨fb,fo+q0,none⟩=some (.bool bq))->∀(c:Nat) (X:Value),(W.setCell ⟨O,c,none⟩ X).cell? ⟨P,2,none⟩=some (.slice (some ⟨fb,fo,none⟩) n fc)/\(W.setCell ⟨O,c,none⟩ X).cell? ⟨fb,fo+q0,none⟩=some (.bool bq)):=Kh (fun W h c X =>
   ⟨by rw[World.cell?_setCell_far W ⟨O,c,none⟩ ⟨P,2,none⟩ X b7];exact h.1,by rw[World.cell?_setCell_far W ⟨O,c,none⟩ ⟨fb,fo+q0,none⟩ X m3];exact h.2⟩)
  have h0:Hid (∀W rs ls,Many w5 (FB sf sn) W rs ls []->(W.cell? ⟨P,2,none⟩=some (.slice (some ⟨fb,fo,none⟩) n fc)/\W.cell? ⟨fb,fo+q0,none⟩=some (.bool bq))/\(W.cell? ⟨O,3,none⟩=some (.slice sn m cn)/\W.cell? ⟨O,2,none⟩=some (.slice sf m cf))):=Kh (fun W rs ls h=>by
   have j2:=b0.out.ge;have hb:=h.but.heap H1.out k3.out;rw[a3,H7]at hb;obtain⟨_,_,e2,e3⟩:=zP hb
   exact⟨⟨h.but.cell d2 (fun hf=>by have:=j2 _ hf;simp only at this;omega),h.but.cell cq (fun hf=>by have:=j2 _ hf;simp only at this;omega)⟩,e3,e2⟩)
  rw[a3,H7]at H1;have n8:Hid (m=i):=Kh hm;have n9:m<=4194304:=by omega
  clear j8 j9 i4 j7 f2 a1 h5 j5 c8 b9 hm a3 H7 cl ch c6 d2 cq;go_upto_region 23 with fail;refine wp_region_noPanic ?_;refine yK (G:=xU 15 (fun W=>W.cell? ⟨P,2,none⟩=some (.slice (some ⟨fb,fo,none⟩) n fc)/\W.cell? ⟨fb,fo+q0,none⟩=some (.bool bq)) (fun W=>W.cell? ⟨O,3,none⟩=some (.slice sn m cn)/\W.cell? ⟨O,2,none⟩=some (.slice sf m cf))) (by kernel_rfl) ?_;rw[<-m5.out];refine zL 0 ⟨(h0.out _ _ _ hM).1,fun _=>(h0.out _ _ _ hM).2⟩ ?_;refine yV 1 ⟨(h0.out _ _ _ hM).1,fun _=>(h0.out _ _ _ hM).2⟩ ?_;refine zL 2 ⟨(h0.out _ _ _ hM).1,fun _=>(h0.out _ _ _ hM).2⟩ ?_;refine zL 5 ⟨(h0.out _ _ _ hM).1,fun _=>(h0.out _ _ _ hM).2⟩ ?_;refine yV 6 ⟨(h0.out _ _ _ hM).1,fun _=>(h0.out _ _ _ hM).2⟩ ?_;refine zL 7 ⟨(h0.out _ _ _ hM).1,fun _=>(h0.out _ _ _ hM).2⟩ ?_;refine zL 8 ⟨(h0.out _ _ _ hM).1,fun _=>(h0.out _ _ _ hM).2⟩ ?_;refine zL 9 ⟨(h0.out _ _ _ hM).1,fun _=>(h0.out _ _ _ hM).2⟩ ?_;refine zL 10 ⟨(h0.out _ _ _ hM).1,fun _=>(h0.out _ _ _ hM).2⟩ ?_;refine zL 11 ⟨(h0.out _ _ _ hM).1,fun _=>(h0.out _ _ _ hM).2⟩ ?_;refine twoG (i:=3) (j:=12) (by kernel_rfl) rfl rfl (fun K hK=>?_) (fun K hK=>?_);go_simp;refine hK.out _ _ ⟨(h0.out _ _ _ (hM.alloc _)).1,fun _=>(h0.out _ _ _ (hM.alloc _)).2⟩ ?_;clear hK K
  try simp only[Act.put,sPa,sPb,sPc]
  refine twoG (i:=4) (j:=12) (by kernel_rfl) rfl rfl (fun K hK=>?_) (fun K hK=>?_);refine uO rfl (.tmp 74) (.tmp 76) 35 rfl wH 0 _ _ rfl ⟨_,_,_,_,_,(hM.alloc _),_,rfl,rfl,rfl,rfl,?g3,?g4,b4,_,_,_,List.Mem.head _,(by first|rfl|simp),rfl,?_⟩
  case g3=>(simp only[];unfold maxLen;omega)
  case g4=>(simp only[];omega)
  intro sa1 sc1 w1x h6;have H4:=h6.litcell (List.Mem.head _)
  try simp only[zW]at H4
  refine hK.out _ _ ⟨(h0.out _ _ _ h6).1,fun _=>(h0.out _ _ _ h6).2⟩ ?_;clear hK K
  try simp only[Act.put,sPa,sPb,sPc]
  refine zL 14 ⟨(h0.out _ _ _ h6).1,fun _=>(h0.out _ _ _ h6).2⟩ ?_;refine oneG (i:=12) (by kernel_rfl) rfl (fun K hK=>?_);go_simp;refine hK.out _ _ ⟨(h0.out _ _ _ (h6.alloc _)).1,fun _=>(h0.out _ _ _ (h6.alloc _)).2⟩ ?_;clear hK K
  try simp only[Act.put,sPa,sPb,sPc]
  rotate_left;go_simp;refine hK.out _ _ ⟨(h0.out _ _ _ ((hM.alloc _).alloc _)).1,fun _=>(h0.out _ _ _ ((hM.alloc _).alloc _)).2⟩ ?_;clear hK K
  try simp only[Act.put,sPa,sPb,sPc]
  refine oneG (i:=4) (by kernel_rfl) rfl (fun K hK=>?_);refine uO rfl (.tmp 74) (.tmp 76) 35 rfl wH 0 _ _ rfl ⟨_,_,_,_,_,((hM.alloc _).alloc _),_,rfl,rfl,rfl,rfl,?g3,?g4,b4,_,_,_,List.Mem.tail _ (List.Mem.head _),(by first|rfl|simp),rfl,?_⟩
  case g3=>(simp only[];unfold maxLen;omega)
  case g4=>(simp only[];omega)
  intro sa1 sc1 w1x h6;have H4:=h6.litcell (List.Mem.head _)
  try simp only[zW]at H4
  have c5:=h6.litcell (List.Mem.tail _ (List.Mem.head _))
  try simp only[zW]at c5
  refine hK.out _ _ ⟨(h0.out _ _ _ h6).1,fun _=>(h0.out _ _ _ h6).2⟩ ?_;clear hK K
  try simp only[Act.put,sPa,sPb,sPc]
  refine zL 14 ⟨(h0.out _ _ _ h6).1,fun _=>(h0.out _ _ _ h6).2⟩ ?_;rotate_left;go_simp;refine hK.out _ _ ⟨(h0.out _ _ _ (hM.alloc _)).1,fun _=>(h0.out _ _ _ (hM.alloc _)).2⟩ ?_;clear hK K
  try simp only[Act.put,sPa,sPb,sPc]
  refine oneG (i:=3) (by kernel_rfl) rfl (fun K hK=>?_);go_simp;refine hK.out _ _ ⟨(h0.out _ _ _ ((hM.alloc _).alloc _)).1,fun _=>(h0.out _ _ _ ((hM.alloc _).alloc _)).2⟩ ?_;clear hK K
  try simp only[Act.put,sPa,sPb,sPc]
  refine oneG (i:=4) (by kernel_rfl) rfl (fun K hK=>?_);refine uO rfl (.tmp 74) (.tmp 76) 35 rfl wH 0 _ _ rfl ⟨_,_,_,_,_,((hM.alloc _).alloc _),_,rfl,rfl,rfl,rfl,?g3,?g4,b4,_,_,_,List.Mem.head _,(by first|rfl|simp),rfl,?_⟩
  case g3=>(simp only[];unfold maxLen;omega)
  case g4=>(simp only[];omega)
  intro sa1 sc1 w1x h6;have H4:=h6.litcell (List.Mem.head _)
  try simp only[zW]at H4
  have c5:=h6.litcell (List.Mem.tail _ (List.Mem.head _))
  try simp only[zW]at c5
  refine hK.out _ _ ⟨(h0.out _ _ _ h6).1,fun _=>(h0.out _ _ _ h6).2⟩ ?_;clear hK K
  try simp only[Act.put,sPa,sPb,sPc]
  refine zL 14 ⟨(h0.out _ _ _ h6).1,fun _=>(h0.out _ _ _ h6).2⟩ ?_
  all_goals
   refine oneG (i:=13) (by kernel_rfl) rfl (fun K hK=>?_)
   first
   | refine uO rfl (.tmp 79) (.tmp 85) 26 rfl wN 1 _ _ rfl ⟨_,_,_,_,_,(h6.alloc _),_,rfl,rfl,rfl,rfl,?g3,?g4,b4,_,_,_,List.Mem.head _,(by first|rfl|simp),rfl,?_⟩
   | refine uO rfl (.tmp 79) (.tmp 85) 26 rfl wN 1 _ _ rfl ⟨_,_,_,_,_,h6,_,rfl,rfl,rfl,rfl,?g3,?g4,b4,_,_,_,List.Mem.head _,(by first|rfl|simp),rfl,?_⟩
   | refine uO rfl (.tmp 79) (.tmp 85) 26 rfl wN 1 _ _ rfl ⟨_,_,_,_,_,h6,_,rfl,rfl,rfl,rfl,?g3,?g4,b4,_,_,_,List.Mem.tail _ (List.Mem.head _),(by first|rfl|simp),rfl,?_⟩
   case g3=>(simp only[];unfold maxLen;omega)
   case g4=>(simp only[];omega)
   intro sa2 sc2 w2x H9;have H4:=H9.litcell (List.Mem.head _)
   try simp only[zW]at H4
   have c5:=H9.litcell (List.Mem.tail _ (List.Mem.head _))
   try simp only[zW]at c5
   refine hK.out _ _ ⟨(h0.out _ _ _ H9).1,fun _=>(h0.out _ _ _ H9).2⟩ ?_;clear hK K
   try simp only[Act.put,sPa,sPb,sPc]
   refine oneG (i:=15) (by kernel_rfl) rfl (fun K hK=>?_);have b5:=H9.but.heap H1.out k3.out;have cb3:=zF b5 3;have cb2:=zF b5 2;have fb3:=zA b5 3;have fb2:=zA b5 2;simp only[List.getElem_toArray,List.getElem_cons_zero,List.getElem_cons_succ]at cb3 cb2;go_simp;have a5:=heap_setCell_same _ O 3 _ _ (.slice sa1 (m+1) sc1) b5;have cb22:=zF a5 2;have fb22:=zA a5 2;simp at cb22;have e9:=l0.out _ (h0.out _ _ _ H9).1 3 (.slice sa1 (m+1) sc1);refine hK.out _ _ ⟨e9,fun h=>by simp at h⟩ ?_;clear hK K
   try simp only[Act.put,sPa,sPb,sPc]
   refine zL 16 ⟨e9,fun h=>by simp at h⟩ ?_;refine oneG (i:=17) (by kernel_rfl) rfl (fun K hK=>?_);go_simp;have d7:=l0.out _ e9 2 (.slice sa2 (m+1) sc2);refine hK.out _ _ ⟨d7,fun h=>by simp at h⟩ ?_;clear hK K
   try simp only[Act.put,sPa,sPb,sPc]
   refine tY (by kernel_rfl) ?_ _;refine NoPanic.normal ?_;obtain⟨a6,j1⟩:=b0.out.push (b:=bq) (row:=wO l (d.next.getD q0 [])) g0.out H9 g2.out rfl;have g9:=Kh a6;have m8:=Kh (j1 w4 n0.out (by have:=d8.out;omega));clear a6 j1 cb3 cb2 fb3 fb2 b5 a5 cb22 fb22 e9 d7 H9
   (try clear h6)
   go_wp2;go_roundg (l.length-(i+1))
   case measure=>have:=k5.out;omega
   exact⟨i+1,_,_,_,_,_,by omega,by go_num,g9.out.congr f0.out f9.out,m8.out⟩
 have j0:i=l.length:=by have:=k5.out;omega
 have k8:Hid (oH d l i=(wG d k).final/\oF d l i=(wG d k).next):=Kh (by
  rw[j0];simp only[oH,oF,List.take_length];rw[HL.out]
  exact⟨rfl,rfl⟩)
 have b7:O≠P+1:=(by omega);have H2:=zB (zB (zB n2.out b8.out) h8.out) h5 (fun e=>b7 (Oj e));have r0:=zF H2 0;have r1:=zF H2 1;have r2:=zF H2 2;have r3:=zF H2 3;have q0:=zA H2 0;have q1:=zA H2 1;have q2:=zA H2 2;have q3:=zA H2 3;simp only[List.getElem_toArray,List.getElem_cons_zero,List.getElem_cons_succ]at r0 r1 r2 r3;have d9:=Kh H2;obtain⟨o0,o1,o2,o3⟩:=zP a6.box;clear a6 h5 H2 j0;go_wp2;refine bodyPost_ret (v:=.tuple #[.agg #[.int .i64 (k:Int),.int .i64 0,.slice sf (oH d l i).length cf,.slice sn (oF d l i).length cn],.slice (some ⟨G,0,none⟩) n n]) (by simp[results,Try.results60,go_sem,r0,r1,r2,r3]) rfl ?_;obtain⟨l5,e6⟩:=rT d9.out (.int .i64 (k:Int)) (.int .i64 0) (.slice sf (oH d l i).length cf) (.slice sn (oF d l i).length cn);have f7:=e1.out.far e6 d9.out (fun e=>b7 e.symm);refine⟨_,_,rfl,?_,?_⟩
 ·have he:wG d k=⟨(k:Int),0,oH d l i,oF d l i⟩:=by
   rw[k8.out.1,k8.out.2];have:=HD.out.hk;simp only[wG,this]
  rw[he];exact⟨O,hs,sf,cf,sn,cn,rfl,by have h1:=h8.out.size;have h2:=d8.out;have h3:=g5.out;omega,f7⟩
 refine zC (zH m7.out (zH b8.out (zH h8.out (zC (yD _ _) H0.out (fun x e=>by have:=Oj e;have:=d8.out;omega))))) e6 (fun x e=>by have:=Oj e;have:=g5.out;omega)
def jL (d:DfaV)(p:List Nat)(i:Nat):List Bool:=(tH p i).map fun q=>d.final.getD q false
def jK (d:DfaV)(p:List Nat)(i:Nat):List (List Int):=(tH p i).map fun q=>uH p (d.next.getD q [])
theorem qHB {d:DfaV}{p:List Nat}{i:Nat}(h:p.getD i 0=cls (p.take i)):jL d p (i+1)=jL d p i++[d.final.getD i false]:=by simp only[jL,uD h,List.map_append,List.map_cons,List.map_nil]
theorem qGY {d:DfaV}{p:List Nat}{i:Nat}(h:p.getD i 0=cls (p.take i)):jK d p (i+1)=jK d p i++[uH p (d.next.getD i [])]:=by simp only[jK,uD h,List.map_append,List.map_cons,List.map_nil]
theorem qHA {d:DfaV}{p:List Nat}{i:Nat}(h:p.getD i 0≠cls (p.take i)):jL d p (i+1)=jL d p i:=by simp only[jL,uB h]
theorem qGX {d:DfaV}{p:List Nat}{i:Nat}(h:p.getD i 0≠cls (p.take i)):jK d p (i+1)=jK d p i:=by simp only[jK,uB h]
theorem lR {d:DfaV}{n k:Nat}(hd:VD d n k){p:List Nat}{q:Nat}(hq:q<n):(uH p (d.next.getD q [])).length=k:=by rw[uH,List.length_map,hd.row q hq]
theorem qHJ {d:DfaV}{n k:Nat}(hd:VD d n k){p:List Nat}{q a:Nat}(hq:q<n)(ha:a<k):(uH p (d.next.getD q [])).getD a 0=((p.getD (nx d q a) 0:Nat):Int):=by
 rw[kN (by rw[hd.row q hq];exact ha)];rfl
def qOU (w:World)(m:DfaV)(e:Ending)(w':World):Prop:=∃v,e=.returned v/\tJ w w' v m/\w.grownBy w' none
theorem qAY (B:Nat)(w:World)(v:Value)(d:DfaV)(n k:Nat)(hB:B<=w.heap.size)(h:rB B w v d)(hd:VD d n k):Calls Try.prog 37 #[v] w (qOU w (minD d k)):=by
 have a3:=h;obtain⟨fb,fo,fc,b,off,cap,RB,RO,RC,rfl,b4⟩:=h.at hd;have hn:=hd.hn;have o8:=hd.n1;have i6:=hd.nbig;have p1:=hd.k6;have p2:=hd.k1;have p6:=b4.fcap.1;have c5:=b4.fcap.2;have p7:=b4.cap.1;have c6:=b4.cap.2;have l6:fc<=9223372036854775807:=by unfold maxLen at c5;omega
 have l5:cap<=9223372036854775807:=by unfold maxLen at c6;omega
 obtain⟨S,hS⟩:=Nm (st0 d);have m3:S<n:=by rw[hS];exact lJ hd
 have m9:=Kh hS;have i3:dAgg k (st0 d) fb fo fc b off cap n=.agg #[.int .i64 (k:Int),.int .i64 (S:Int),.slice (some ⟨fb,fo,none⟩) n fc,.slice (some ⟨b,off,none⟩) n cap]:=by rw[hS];rfl
 rw[i3]at a3⊢;obtain⟨c8,e6,b9,i2⟩:=pF w #[.int .i64 (k:Int),.int .i64 (S:Int),.slice (some ⟨fb,fo,none⟩) n fc,.slice (some ⟨b,off,none⟩) n cap] #[.int .i64 0,.int .i64 0,.slice none 0 0,.slice none 0 0] 37;obtain⟨wA,f6⟩:=Nm ((w.alloc (.cells #[.int .i64 (k:Int),.int .i64 (S:Int),.slice (some ⟨fb,fo,none⟩) n fc,.slice (some ⟨b,off,none⟩) n cap] 37)).alloc (.cells #[.int .i64 0,.int .i64 0,.slice none 0 0,.slice none 0 0] 37));rw[<-f6]at c8 e6 b9 i2;obtain⟨c0,c1,c2,c3⟩:=zP c8;obtain⟨P,hP⟩:=Nm w.heap.size;have f0:=Kh hP;rw[<-hP]at c8 e6 c0 c1 c2 c3 i2 hB;obtain⟨i0,n9,n5,m6⟩:=K4 c8 e6 b9 f6;have o0:=Kh (b4.kept b9 (by simp));have HN:=Kh hn;have HD:=Kh hd;have k9:=Kh (qBN B wA _ d n k (by omega) (a3.kept b9 (by simp)) hd);clear c8 e6 b9 f6 b4 hn hd h a3 i3 c5 c6 hS;go_enter Try.func37,Try.ntmps37;go_upto_region 1 with fail;rw[<-m6.out,<-f0.out];clear hP;go_wp2_with fail;refine k9.out.mono ?_;rintro e w1 ⟨G,rfl,m0,h7,e5⟩;have b1:(xH d k).length=n:=by rw[wU,HN.out]
 have e0:=sF d k;obtain⟨p,hp⟩:=Nm (xH d k);have HP:=Kh hp;rw[<-hp]at h7 b1 e0⊢;rw[b1];have H9:=oZ e0;rw[b1]at H9;obtain⟨k5,d6,e9,a8,n3⟩:=K5 h7 e5 e0 b1 H9;have o2:=e5.size;have p4:=h7.1;obtain⟨d0,d1,d2,d3⟩:=zP (zB i0.out e5);have cp:=h7.nat S (by rw[b1];exact m3);rw[Nat.zero_add]at cp;obtain⟨ps,f2⟩:=Nm (p.getD S 0);have n2:=Kh f2;rw[<-f2]at cp;have m2:(S:Int)<n:=by omega
 have i8:=World.new_ne w1 _ d0;have b7:=World.new_ne w1 _ d1;have i7:=World.new_ne w1 _ cp;have f3:=World.block_lt_of_cell? w1 _ d0;simp only at i8 b7 i7 f3;have m4:P<w1.heap.size:=f3;clear hp h7 e5 b1 e0 H9 k9 c0 c1 c2 c3 d2 d3 f2;go_upto_region 2 with fail
 go_region_held3 (fun w'=>w'.cell? ⟨P,0,none⟩=some (.int .i64 (k:Int))/\w'.cell? ⟨P,1,none⟩=some (.int .i64 (S:Int))/\w'.cell? ⟨G,S,none⟩=some (.int .i64 (ps:Int))) (first|go_keep|fail) (fail)
 obtain⟨w4,rfl⟩:=Nm (w1:World);obtain⟨O,hO⟩:=Nm w4.heap.size;obtain⟨w6,d9⟩:=Nm ((w4.alloc (.cells #[.int .i64 (k:Int),.int .i64 (ps:Int),.slice none 0 0,.slice none 0 0] 37)).drew);rw[<-d9,<-hO];have a2:w4.grownBy w6 none:=by rw[d9];exact zH (Ga w4 _ none) (zY _ _)
 have j7:w6.heap[O]?=some (.cells #[.int .i64 (k:Int),.int .i64 (ps:Int),.slice none 0 0,.slice none 0 0] 37 (0,0)):=by rw[d9,hO];exact heap_alloc_new w4 _
 have k4:Built O w6 O k ps [] [] [] none 0 none 0:=⟨j7,World.ownsRow_nil _ _ _ _,World.ownsRow_nil _ _ _ _,tG.nil,rfl⟩;obtain⟨l0,d5,g0⟩:=K3 k4 a2 hO;have q1:G<O:=by omega
 have p9:P+1<O:=by omega
 have l2:=a2.size;clear j7 k4 a2 d9 hO i8 b7 i7 f3 m4 d0 d1 cp;go_wp2
 go_loopg [5,6,7,23] n (fun gh v5 a6 a7 i wr=>∃(i':Nat) (hs:List Value) (sf:Option Addr) (cf:Nat) (sn:Option Addr) (cn:Nat),gh+i'=n/\i=.int .i64 i'/\v5=.int .i64 (cls (p.take i'):Nat)/\Built O wr O k ps (jL d p i') (jK d p i') hs sf cf sn cn/\w4.grownBy wr (some O))
 case atStart=>exact⟨0,[],none,0,none,0,rfl,rfl,rfl,l0.out,wR d5.out⟩
 clear l0 d5;obtain⟨i,hs,sf,cf,sn,cn,hg,rfl,rfl,H2,h4⟩:=hrel;obtain⟨g5,H4,d4⟩:=K3 hg H2 h4;have o1:=h4.size;clear hg;by_cases hi:i<n
 ·have p3:(i:Int)<n:=by omega
  have a5:O≠P:=(by omega);have k2:O≠G:=(by omega);have j5:=(k5.out.kept h4 (fun e=>k2 (Oj e))).nat i (by rw[a8.out];exact hi);rw[Nat.zero_add]at j5;obtain⟨H1,h9,h8⟩:=lO e9.out (q:=i) (by rw[a8.out];exact hi);have j4:=jF (p.take i);rw[List.length_take]at j4;obtain⟨c,hc⟩:=Nm (cls (p.take i));rw[<-hc]at H1 h9 h8 j4⊢;obtain⟨x,hx⟩:=Nm (p.getD i 0);rw[<-hx]at j5 H1 h9 h8;by_cases hxc:x=c
  ·have d7:=Kh (qHB (d:=d) (hx.symm.trans (hxc.trans hc)));have e8:=Kh (qGY (d:=d) (hx.symm.trans (hxc.trans hc)))
   have g7:Hid (cls (p.take (i+1))=c+1):=Kh (h9 hxc);have e1:((x:Int) != (c:Int))=false:=by rw[hxc];simp
   have b2:(jL d p i).length=c:=by simp only[jL,List.length_map];rw[uI e9.out i (by rw[a8.out];omega),hc]
   have H8:(jK d p i).length=c:=by simp only[jK,List.length_map];rw[uI e9.out i (by rw[a8.out];omega),hc]
   have hA:=(o0.out.kept d6.out (by simp)).kept h4 (fun k e=>by have:=Oj e;omega);have ch:=hA.hd i hi;obtain⟨d0,d1,d2,d3⟩:=zP (zB (zB i0.out d6.out) h4 (fun e=>a5 (Oj e)));obtain⟨wo,rfl⟩:=Nm (wr:World);have i1:=Kh hA;clear hA H2 h4 H1 h9 h8 hx hxc hc;go_wp2
   go_loopg [8,39] k (fun gh ov i' wr=>∃(a:Nat) (sr:Option Addr) (cr:Nat),gh+a=k/\i'=.int .i64 a/\ov=.slice sr a cr/\wr.ownsRow wo.heap.size 3 1 (.slice sr a cr) a (ints ((uH p (d.next.getD i [])).take a))/\wo.grownBy wr none)
   case atStart=>exact⟨0,none,0,rfl,rfl,rfl,by simpa [ints] using World.ownsRow_nil _ _ _ _,yD _ _⟩
   obtain⟨a,sr,cr,hg,rfl,rfl,b6,h4⟩:=hrel;obtain⟨k8,H3,g2⟩:=K3 hg b6 h4;clear hg b6 d0 d1 d2 d3;by_cases ha:a<k
   ·have p8:(a:Int)<k:=by omega
    have hA:=i1.out.kept h4 (by simp);have ce:=hA.el i a hi ha;have o5:=(hA.rcap i hi).1;have i5:=oY HD.out hi ha;have cp:=((k5.out.kept d4.out (fun e=>k2 (Oj e))).kept h4 (by simp)).nat (nx d i a) (by rw[a8.out];exact i5);rw[Nat.zero_add]at cp
    have f8:Hid ((uH p (d.next.getD i [])).take (a+1)=(uH p (d.next.getD i [])).take a++[((p.getD (nx d i a) 0:Nat):Int)]):=Kh (by
     rw[yF (d:=0) (by rw[lR HD.out hi];exact ha),qHJ HD.out hi ha])
    obtain⟨s,hs⟩:=Nm (nx d i a);rw[<-hs]at ce i5 cp f8;obtain⟨y,hy⟩:=Nm (p.getD s 0);rw[<-hy]at cp f8;have l9:=h4.size;have l4:(s:Int)<n:=(by omega);clear hA hs hy h4;go_wp2_with (first|(at_builtin;refine app1 rfl _ _ _ rfl yI wo.heap.size _ a (ints ((uH p (d.next.getD i [])).take a)) rfl H3.out _ rfl rfl ?c1 ?c2 ?c3 ?_)|fail)
    case c1=>unfold maxLen;omega
    case c2=>omega
    case c3=>exact l9
    intro sa' sc' w6 H5 j3 l8;have n4:=Kh H5;have n6:=Kh j3;clear H5 j3;go_wp2;go_roundg (k-(a+1))
    case measure=>have:=k8.out;omega
    refine⟨a+1,sa',sc',by omega,by go_num,rfl,?_,zC g2.out n6.out (fun q e=>(H3.out.lt q e).1)⟩;rw[f8.out,aM];exact n4.out
   have j9:a=k:=by have:=k8.out;omega
   have i4:(uH p (d.next.getD i [])).take a=uH p (d.next.getD i []):=by rw[j9,<-lR HD.out (p:=p) hi];exact List.take_length
   rw[i4]at H3;obtain⟨w5,f1⟩:=Nm wr.drew;have m7:=Kh f1;have a1:wr.grownBy w5 none:=(by rw[f1];exact zY wr none);have a9:=Kh ((H4.out.grow h4).grow a1);have f9:Hid (RowT w5.heap.size 3 w5 (.slice sr a cr) (ints (uH p (d.next.getD i [])))):=Kh (RowT.of_owns (xW H3.out a1 (by simp)));have n7:=Kh (zH d4.out (wR (zH h4 a1) (row:=some O)));have k3:=a9.out.box;have H0:=Kh k3;have k7:=Kh a9.out.notbox;have b0:O<=w5.heap.size:=by have:=h4.size;have:=a1.size;have:=g0.out;omega
   have cq:=(((i1.out.kept h4 (by simp)).kept a1 (by simp))).fin hi;obtain⟨_,_,d2,_⟩:=zP (zB (zB (zB (zB i0.out d6.out) d4.out (fun e=>a5 (Oj e))) h4) a1);have p5:=i1.out.flt;have m1:O≠fb:=(by omega);obtain⟨bq,j6⟩:=Nm (d.final.getD i false);rw[<-j6]at cq d7;obtain⟨fsl,c4⟩:=Nm (jL d p i);obtain⟨tsl,b5⟩:=Nm (jK d p i);rw[<-c4]at a9 H0 d7 b2;rw[<-b5]at a9 H0 e8 H8;obtain⟨m,hm⟩:=Nm c;rw[<-hm]at b2 H8;have f7:=Kh H8;have k0:=a9.out.many
   have hM:Many w5 (FB sf sn) w5 [⟨O,22,.slice sn m cn,m,hs,1⟩,⟨O,4,.slice sf m cf,m,bls fsl,1⟩] [] []:=by
    have h1:=k0;simp only[rN,rF,b2,H8]at h1;exact h1
   have l1:Hid (∀W:World,(W.cell? ⟨P,2,none⟩=some (.slice (some ⟨fb,fo,none⟩) n fc)/\W.cell? ⟨fb,fo+i,none⟩=some (.bool bq))->∀(c:Nat) (X:Value),(W.setCell ⟨O,c,none⟩ X).cell? ⟨P,2,none⟩=some (.slice (some ⟨fb,fo,none⟩) n fc)/\(W.setCell ⟨O,c,none⟩ X).cell? ⟨fb,fo+i,none⟩=some (.bool bq)):=Kh (fun W h c X =>
    ⟨by rw[World.cell?_setCell_far W ⟨O,c,none⟩ ⟨P,2,none⟩ X a5];exact h.1,by rw[World.cell?_setCell_far W ⟨O,c,none⟩ ⟨fb,fo+i,none⟩ X m1];exact h.2⟩)
   have h0:Hid (∀W rs ls,Many w5 (FB sf sn) W rs ls []->(W.cell? ⟨P,2,none⟩=some (.slice (some ⟨fb,fo,none⟩) n fc)/\W.cell? ⟨fb,fo+i,none⟩=some (.bool bq))/\(W.cell? ⟨O,3,none⟩=some (.slice sn m cn)/\W.cell? ⟨O,2,none⟩=some (.slice sf m cf))):=Kh (fun W rs ls h=>by
    have j1:=a9.out.ge;have hb:=h.but.heap H0.out k7.out;rw[b2,H8]at hb;obtain⟨_,_,e2,e3⟩:=zP hb
    exact⟨⟨h.but.cell d2 (fun hf=>by have:=j1 _ hf;simp only at this;omega),h.but.cell cq (fun hf=>by have:=j1 _ hf;simp only at this;omega)⟩,e3,e2⟩)
   rw[b2,H8]at H0;have o9:Hid (m=c):=Kh hm;have p0:m<=4194304:=by omega
   clear k0 k3 i4 j9 f1 a1 h4 j6 c4 b5 hm b2 H8 ch d2 cq;go_upto_region 15 with fail;refine wp_region_noPanic ?_;refine yK (G:=xU 15 (fun W=>W.cell? ⟨P,2,none⟩=some (.slice (some ⟨fb,fo,none⟩) n fc)/\W.cell? ⟨fb,fo+i,none⟩=some (.bool bq)) (fun W=>W.cell? ⟨O,3,none⟩=some (.slice sn m cn)/\W.cell? ⟨O,2,none⟩=some (.slice sf m cf))) (by kernel_rfl) ?_;rw[<-m7.out];refine zL 0 ⟨(h0.out _ _ _ hM).1,fun _=>(h0.out _ _ _ hM).2⟩ ?_;refine yV 1 ⟨(h0.out _ _ _ hM).1,fun _=>(h0.out _ _ _ hM).2⟩ ?_;refine zL 2 ⟨(h0.out _ _ _ hM).1,fun _=>(h0.out _ _ _ hM).2⟩ ?_;refine zL 5 ⟨(h0.out _ _ _ hM).1,fun _=>(h0.out _ _ _ hM).2⟩ ?_;refine yV 6 ⟨(h0.out _ _ _ hM).1,fun _=>(h0.out _ _ _ hM).2⟩ ?_;refine zL 7 ⟨(h0.out _ _ _ hM).1,fun _=>(h0.out _ _ _ hM).2⟩ ?_;refine zL 8 ⟨(h0.out _ _ _ hM).1,fun _=>(h0.out _ _ _ hM).2⟩ ?_;refine zL 9 ⟨(h0.out _ _ _ hM).1,fun _=>(h0.out _ _ _ hM).2⟩ ?_;refine zL 10 ⟨(h0.out _ _ _ hM).1,fun _=>(h0.out _ _ _ hM).2⟩ ?_;refine zL 11 ⟨(h0.out _ _ _ hM).1,fun _=>(h0.out _ _ _ hM).2⟩ ?_;refine twoG (i:=3) (j:=12) (by kernel_rfl) rfl rfl (fun K hK=>?_) (fun K hK=>?_);go_simp;refine hK.out _ _ ⟨(h0.out _ _ _ (hM.alloc _)).1,fun _=>(h0.out _ _ _ (hM.alloc _)).2⟩ ?_;clear hK K
   try simp only[Act.put,sPa,sPb,sPc]
   refine twoG (i:=4) (j:=12) (by kernel_rfl) rfl rfl (fun K hK=>?_) (fun K hK=>?_);refine uO rfl (.tmp 52) (.tmp 54) 35 rfl wH 0 _ _ rfl ⟨_,_,_,_,_,(hM.alloc _),_,rfl,rfl,rfl,rfl,?g3,?g4,b0,_,_,_,List.Mem.head _,(by first|rfl|simp),rfl,?_⟩
   case g3=>(simp only[];unfold maxLen;omega)
   case g4=>(simp only[];omega)
   intro sa1 sc1 w1x h3;have a0:=h3.litcell (List.Mem.head _)
   try simp only[zW]at a0
   refine hK.out _ _ ⟨(h0.out _ _ _ h3).1,fun _=>(h0.out _ _ _ h3).2⟩ ?_;clear hK K
   try simp only[Act.put,sPa,sPb,sPc]
   refine zL 14 ⟨(h0.out _ _ _ h3).1,fun _=>(h0.out _ _ _ h3).2⟩ ?_;refine oneG (i:=12) (by kernel_rfl) rfl (fun K hK=>?_);go_simp;refine hK.out _ _ ⟨(h0.out _ _ _ (h3.alloc _)).1,fun _=>(h0.out _ _ _ (h3.alloc _)).2⟩ ?_;clear hK K
   try simp only[Act.put,sPa,sPb,sPc]
   rotate_left;go_simp;refine hK.out _ _ ⟨(h0.out _ _ _ ((hM.alloc _).alloc _)).1,fun _=>(h0.out _ _ _ ((hM.alloc _).alloc _)).2⟩ ?_;clear hK K
   try simp only[Act.put,sPa,sPb,sPc]
   refine oneG (i:=4) (by kernel_rfl) rfl (fun K hK=>?_);refine uO rfl (.tmp 52) (.tmp 54) 35 rfl wH 0 _ _ rfl ⟨_,_,_,_,_,((hM.alloc _).alloc _),_,rfl,rfl,rfl,rfl,?g3,?g4,b0,_,_,_,List.Mem.tail _ (List.Mem.head _),(by first|rfl|simp),rfl,?_⟩
   case g3=>(simp only[];unfold maxLen;omega)
   case g4=>(simp only[];omega)
   intro sa1 sc1 w1x h3;have a0:=h3.litcell (List.Mem.head _)
   try simp only[zW]at a0
   have b8:=h3.litcell (List.Mem.tail _ (List.Mem.head _))
   try simp only[zW]at b8
   refine hK.out _ _ ⟨(h0.out _ _ _ h3).1,fun _=>(h0.out _ _ _ h3).2⟩ ?_;clear hK K
   try simp only[Act.put,sPa,sPb,sPc]
   refine zL 14 ⟨(h0.out _ _ _ h3).1,fun _=>(h0.out _ _ _ h3).2⟩ ?_;rotate_left;go_simp;refine hK.out _ _ ⟨(h0.out _ _ _ (hM.alloc _)).1,fun _=>(h0.out _ _ _ (hM.alloc _)).2⟩ ?_;clear hK K
   try simp only[Act.put,sPa,sPb,sPc]
   refine oneG (i:=3) (by kernel_rfl) rfl (fun K hK=>?_);go_simp;refine hK.out _ _ ⟨(h0.out _ _ _ ((hM.alloc _).alloc _)).1,fun _=>(h0.out _ _ _ ((hM.alloc _).alloc _)).2⟩ ?_;clear hK K
   try simp only[Act.put,sPa,sPb,sPc]
   refine oneG (i:=4) (by kernel_rfl) rfl (fun K hK=>?_);refine uO rfl (.tmp 52) (.tmp 54) 35 rfl wH 0 _ _ rfl ⟨_,_,_,_,_,((hM.alloc _).alloc _),_,rfl,rfl,rfl,rfl,?g3,?g4,b0,_,_,_,List.Mem.head _,(by first|rfl|simp),rfl,?_⟩
   case g3=>(simp only[];unfold maxLen;omega)
   case g4=>(simp only[];omega)
   intro sa1 sc1 w1x h3;have a0:=h3.litcell (List.Mem.head _)
   try simp only[zW]at a0
   have b8:=h3.litcell (List.Mem.tail _ (List.Mem.head _))
   try simp only[zW]at b8
   refine hK.out _ _ ⟨(h0.out _ _ _ h3).1,fun _=>(h0.out _ _ _ h3).2⟩ ?_;clear hK K
   try simp only[Act.put,sPa,sPb,sPc]
   refine zL 14 ⟨(h0.out _ _ _ h3).1,fun _=>(h0.out _ _ _ h3).2⟩ ?_
   all_goals
    refine oneG (i:=13) (by kernel_rfl) rfl (fun K hK=>?_)
    first
    | refine uO rfl (.tmp 57) (.tmp 63) 26 rfl wN 1 _ _ rfl ⟨_,_,_,_,_,(h3.alloc _),_,rfl,rfl,rfl,rfl,?g3,?g4,b0,_,_,_,List.Mem.head _,(by first|rfl|simp),rfl,?_⟩
    | refine uO rfl (.tmp 57) (.tmp 63) 26 rfl wN 1 _ _ rfl ⟨_,_,_,_,_,h3,_,rfl,rfl,rfl,rfl,?g3,?g4,b0,_,_,_,List.Mem.head _,(by first|rfl|simp),rfl,?_⟩
    | refine uO rfl (.tmp 57) (.tmp 63) 26 rfl wN 1 _ _ rfl ⟨_,_,_,_,_,h3,_,rfl,rfl,rfl,rfl,?g3,?g4,b0,_,_,_,List.Mem.tail _ (List.Mem.head _),(by first|rfl|simp),rfl,?_⟩
    case g3=>(simp only[];unfold maxLen;omega)
    case g4=>(simp only[];omega)
    intro sa2 sc2 w2x H7;have a0:=H7.litcell (List.Mem.head _)
    try simp only[zW]at a0
    have b8:=H7.litcell (List.Mem.tail _ (List.Mem.head _))
    try simp only[zW]at b8
    refine hK.out _ _ ⟨(h0.out _ _ _ H7).1,fun _=>(h0.out _ _ _ H7).2⟩ ?_;clear hK K
    try simp only[Act.put,sPa,sPb,sPc]
    refine oneG (i:=15) (by kernel_rfl) rfl (fun K hK=>?_);have b3:=H7.but.heap H0.out k7.out;have cb3:=zF b3 3;have cb2:=zF b3 2;have fb3:=zA b3 3;have fb2:=zA b3 2;simp only[List.getElem_toArray,List.getElem_cons_zero,List.getElem_cons_succ]at cb3 cb2;go_simp;have a4:=heap_setCell_same _ O 3 _ _ (.slice sa1 (m+1) sc1) b3;have cb22:=zF a4 2;have fb22:=zA a4 2;simp at cb22;have e7:=l1.out _ (h0.out _ _ _ H7).1 3 (.slice sa1 (m+1) sc1);refine hK.out _ _ ⟨e7,fun h=>by simp at h⟩ ?_;clear hK K
    try simp only[Act.put,sPa,sPb,sPc]
    refine zL 16 ⟨e7,fun h=>by simp at h⟩ ?_;refine oneG (i:=17) (by kernel_rfl) rfl (fun K hK=>?_);go_simp;have c9:=l1.out _ e7 2 (.slice sa2 (m+1) sc2);refine hK.out _ _ ⟨c9,fun h=>by simp at h⟩ ?_;clear hK K
    try simp only[Act.put,sPa,sPb,sPc]
    refine tY (by kernel_rfl) ?_ _;refine NoPanic.normal ?_;obtain⟨H2,j0⟩:=a9.out.push (b:=bq) (row:=uH p (d.next.getD i [])) f7.out H7 f9.out rfl;have g8:=Kh H2;have g6:=Kh (j0 w4 n7.out (by have:=g0.out;omega));clear H2 j0 cb3 cb2 fb3 fb2 b3 a4 cb22 fb22 e7 c9 H7
    (try clear h3)
    go_wp2;go_roundg (n-(i+1))
    case measure=>have:=g5.out;omega
    exact⟨i+1,_,_,_,_,_,by omega,by go_num,by rw[g7.out];rfl,g8.out.congr d7.out e8.out,g6.out⟩
  have d7:=Kh (qHA (d:=d) (fun e=>hxc (hx.trans (e.trans hc.symm))));have e8:=Kh (qGX (d:=d) (fun e=>hxc (hx.trans (e.trans hc.symm))));have g7:Hid (cls (p.take (i+1))=c):=Kh (h8 hxc);have e1:((x:Int) != (c:Int))=true:=by rw[bne_iff_ne];omega
  clear H2 h4 H1 h9 h8 hx hc hxc;go_wp2;go_roundg (n-(i+1))
  case measure=>have:=g5.out;omega
  exact⟨i+1,hs,sf,cf,sn,cn,by omega,by go_num,by rw[g7.out],H4.out.congr d7.out e8.out,d4.out⟩
 have i9:i=n:=by have:=g5.out;omega
 have hE:(⟨(k:Int),(ps:Int),jL d p i,jK d p i⟩:DfaV)=tO d p:=by
  have h1:=HD.out.hk;have h2:reps p=tH p i:=by rw[reps,a8.out,i9]
  simp only[tO,jL,jK,h1,h2,n2.out,m9.out]
 have n0:=Kh (qAR HD.out a8.out e9.out);have f5:=H2.dfa;rw[hE]at f5;have m8:=Kh (qJA wr.heap.size wr _ (tO d p) (cls p) k (Nat.le_refl _) f5 n0.out);obtain⟨d0,d1,d2,d3⟩:=zP H2.box;have a5:O≠P+1:=(by omega);have m5:P+1≠O:=(by omega);clear hE f5 H2 i9;go_wp2_with fail;refine m8.out.mono ?_;rintro e w7 ⟨v7,pv7,rfl,H6,e4⟩;have l7:wG (tO d p) k=minD d k:=by rw[HP.out];rfl
 rw[l7]at H6;obtain⟨o7,l3,sf7,cf7,sn7,cn7,rfl,o6,j8⟩:=H6;have h6:=zB H4.out.box e4;have h5:=zB (zB (zB n9.out d6.out) h4 (fun e=>a5 (Oj e))) e4;obtain⟨d8,g9,n8,g6⟩:=K4 h6 h5 j8 e4;obtain⟨x0,x1,x2,x3⟩:=zP h6;obtain⟨y0,y1,y2,y3⟩:=zP h5;have fx0:=zA h6 0;have fx1:=zA h6 1;have fx2:=zA h6 2;have fx3:=zA h6 3;have fy0:=zA h5 0;have fy1:=zA h5 1;have fy2:=zA h5 2;have fy3:=zA h5 3;clear h6 h5 j8 e4 h4 d0 d1 d2 d3;go_wp2;refine bodyPost_ret (v:=.agg #[.int .i64 (minD d k).letters,.int .i64 (minD d k).start,.slice sf7 (minD d k).final.length cf7,.slice sn7 (minD d k).next.length cn7]) (by simp[results,Try.results37,go_sem,y0,y1,y2,y3,a5,m5]) rfl ?_;obtain⟨o4,f4⟩:=rT d8.out (.int .i64 (minD d k).letters) (.int .i64 (minD d k).start) (.slice sf7 (minD d k).final.length cf7) (.slice sn7 (minD d k).next.length cn7);have c7:=zB g9.out f4 (fun e=>a5 (Oj e));obtain⟨o3,j2⟩:=rT c7 (.int .i64 (minD d k).letters) (.int .i64 (minD d k).start) (.slice sf7 (minD d k).final.length cf7) (.slice sn7 (minD d k).next.length cn7);have q0:O<wr.heap.size:=zR H4.out.box;refine⟨_,rfl,⟨o7,l3,sf7,cf7,sn7,cn7,rfl,by have:=f0.out;omega,(n8.out.far f4 d8.out (by omega)).far j2 c7 (by omega)⟩,?_⟩;have g1:w.grownBy wr none:=zH n5.out (zH d6.out (zC (yD _ _) d4.out (fun x e=>by have:=Oj e;have:=g0.out;omega)));refine zC (zC (zH g1 g6.out) f4 (fun x e=>by have:=Oj e;have:=f0.out;omega)) j2 (fun x e=>by have:=Oj e;have:=f0.out;omega)
end Go.Proofs.Ytobakifdllameaa
