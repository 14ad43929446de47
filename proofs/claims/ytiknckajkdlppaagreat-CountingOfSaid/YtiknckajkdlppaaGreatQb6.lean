/- Part 6 of the proof. -/
import Derived.Test.YtiknckajkdlppaaGreatQb5
set_option linter.unusedVariables false
set_option linter.unusedSimpArgs false
set_option maxRecDepth 100000
set_option maxHeartbeats 16000000
namespace Go.Proofs.YtiknckajkdlppaaGreat
open Go.RowKit
variable{p i m k base n o g b0 o0 P u x cE cP cL cU:Nat}{pre a9:List Int}{a a0:Act}{v hv vg v0 v1 v2 v3 v4 v5 v7 v8 v9 j8 j9 i0 i1 i2 i3 i4 i5 i6 i7 i8 i9 g0 g1 g3 g4 g6 g7 g8 g9 f9 e0 e1 e2 e3 e4 e5 e6 e7 e8 e9 d0 d1 d2 d3 d4 d5 d6 d7 d8 d9 c0 c1 c2 c6 c7 c8 c9 b1 b2 b3 b4 b5 b6 b7 b8 b9 a1 a2 gv:Value}{xs us a8:List Value}{F FF:Nat->Prop}{ls:List (Nat×Obj)}{r:RowS}{l:Array Bool}{gs:List (List Nat)}{w5 w4:World}{sE sP sL sU:Option Addr}
theorem yD {w:World}{e:Nat}{x0 x1 x2 x3 x4 x5 x6 x7 x8:Value}(h:w.heap[p]?=some (.cells #[x0,x1,x2,x3,x4,x5,x6,x7,x8] e (0,0))):w.cell? ⟨p,0,none⟩=some x0/\w.cell? ⟨p,1,none⟩=some x1/\w.cell? ⟨p,2,none⟩=some x2/\w.cell? ⟨p,3,none⟩=some x3/\w.cell? ⟨p,4,none⟩=some x4/\w.cell? ⟨p,5,none⟩=some x5/\w.cell? ⟨p,6,none⟩=some x6/\w.cell? ⟨p,7,none⟩=some x7/\w.cell? ⟨p,8,none⟩=some x8:=by
 have c0:=zJ h 0;have c1:=zJ h 1;have c2:=zJ h 2;have c3:=zJ h 3;have c4:=zJ h 4;have c5:=zJ h 5;have c6:=zJ h 6;have c7:=zJ h 7;have c8:=zJ h 8;simp only[sPd,sPe,sPf]at c0 c1 c2 c3 c4 c5 c6 c7 c8;exact⟨c0,c1,c2,c3,c4,c5,c6,c7,c8⟩
theorem mZ (B C:Nat)(w:World)(x0 x1 x2 x3 x4 x5 x6 x7 x8:Value)(pre a9:List Int)(n k i0:Nat)(hB:B<=w.heap.size)(hC:C<=w.heap.size)(h4:Row B w x4 (ints pre))(h5:Row C w x5 (ints a9))(a8:pre.length=n)(a7:a9.length=n)(a6:qA pre a9 n k)(hk:k<=6)(hn:n<=2000)(hi:i0<n):Calls Tryz.prog 41 #[.agg #[x0,x1,x2,x3,x4,x5,x6,x7,x8],.int .i64 (i0:Int)] w fun e w'=>e=.returned (.string (strOfNums (lets (vZ pre a9 i0))))/\w.grownBy w' none:=by
 obtain⟨pb,po,pc,rfl,c0,H3,h7,a0⟩:=h4.some_ (by rw[zL];omega);obtain⟨qb,qo,qc,rfl,b8,H2,h6,H9⟩:=h5.some_ (by rw[zL];omega);rw[zL,a8]at H3⊢;rw[zL,a7]at H2⊢;have b0:pc<=9223372036854775807:=jl h7
 have a5:qc<=9223372036854775807:=jl h6
 obtain⟨wA,H0⟩:=Nm (w.alloc (.cells #[x0,x1,x2,x3,.slice (some ⟨pb,po,none⟩) n pc,.slice (some ⟨qb,qo,none⟩) n qc,x6,x7,x8] 75));have h0:wA.heap[w.heap.size]?=some (.cells #[x0,x1,x2,x3,.slice (some ⟨pb,po,none⟩) n pc,.slice (some ⟨qb,qo,none⟩) n qc,x6,x7,x8] 75 (0,0)):=by rw[H0];exact heap_alloc_new w _
 have h9:w.grownBy wA none:=by rw[H0];exact Ga w _ none
 obtain⟨P,hP⟩:=Nm w.heap.size;have b5:=Kh hP;rw[<-hP]at h0 hB hC;obtain⟨a4,b7,b3⟩:=Kc h0 h9 H0;have a1:=Kh (a0.kept h9 yq);have b4:=Kh (H9.kept h9 yq);obtain⟨H7,a2,b6⟩:=Kc a6 a8 a7;clear h0 h9 H0 a0 H9 h4 h5 h7 h6 a6 a8 a7;go_enter Tryz.func41,Tryz.ntmps41;go_upto_region 1 with fail;rw[<-b3.out,<-b5.out];clear hP;go_wp2
 go_loopg [1,5] n (fun gh i v5 wr=>∃(j:Nat) (acc:List Nat),j<=gh/\j<n/\i=.int .i64 j/\v5=.string (strOfNums (lets acc))/\vZ pre a9 i0=vZ pre a9 j++acc/\acc.length<=2000/\wA.grownBy wr none)
 case atStart=>exact⟨i0,[],yo,hi,rfl,rfl,yq,yq,zX _ _⟩
 obtain⟨j,acc,hg,hj,rfl,rfl,hw,c3,h8⟩:=hrel;obtain⟨HW,a3,HG⟩:=Kc hw h8 hg;obtain⟨d0,d1,d2,d3,d4,d5,d6,d7,d8⟩:=yD (zD a4.out h8);have cl:=(b4.out.kept h8 yq).int j (by rw[b6.out];exact hj);have cp:=(a1.out.kept h8 yq).int j (by rw[a2.out];exact hj);have c1:(j:Int)<n:=yo
 clear hw h8 hg d0 d1 d2 d3 d6 d7 d8;by_cases hl:a9.getD j 0<0
 ·have HE:Hid (vZ pre a9 i0=acc):=Kh (by rw[HW.out,pZ hl];rfl)
  obtain⟨x,hx⟩:=Nm (a9.getD j 0);rw[<-hx]at cl hl;clear hx;go_wp2;go_ret;exact⟨by rw[HE.out];rfl,zI b7.out a3.out⟩
 rcases H7.out j hj with h1|⟨h1,h2,h3,h4⟩
 ·exact absurd h1 hl
 have H1:=oB H7.out hj hl;obtain⟨a,ha⟩:∃a:Nat,(a:Int)=a9.getD j 0:=⟨(a9.getD j 0).toNat,yo⟩;obtain⟨p,hp⟩:∃p:Nat,(p:Int)=pre.getD j 0:=⟨(pre.getD j 0).toNat,yo⟩;rw[<-ha,<-hp]at H1;rw[<-ha]at cl h1 h2;rw[<-hp]at cp h3 h4;have b9:p<j:=yo;have HE:Hid (vZ pre a9 i0=vZ pre a9 p++(a::acc)):=Kh (by rw[HW.out,H1];simp);have b1:=(oM H7.out i0 hi).2
 have H5:(a::acc).length<=2000:=by
  have:=congrArg List.length HE.out;rw[List.length_append]at this;omega
 have H6:a<26:=yo;obtain⟨X,hX⟩:=Nm (strOfNums [97+(a:Int)]);obtain⟨Y,hY⟩:=Nm (strOfNums (lets acc))
 have c2:∀W:World,(Op.stringOp .add X Y).run Tryz.prog W=.ok (.string (X++Y)) W:=fun W=>run_string_add_sum W X Y (by
  rw[hX,hY,strOfNums_size,strOfNums_size];simp[lets];omega)
 have b2:Hid (X++Y=strOfNums (lets (a::acc))):=Kh (by rw[hX,hY,gV];rfl);rw[<-hY];have HL:=fun W=>Kh (iO W a H6);rw[<-hX]at HL;clear hl H1 ha hp h1 h2 h3 h4 hX hY b1;go_wp2_with fail;refine(HL _).out.mono ?_;rintro e w2 ⟨rfl,H4⟩;have H8:=Kh (zI a3.out H4);obtain⟨e0,e1,e2,e3,e4,e5,e6,e7,e8⟩:=yD (zD a4.out H8.out);have cp2:=(a1.out.kept H8.out yq).int j (by rw[a2.out];exact hj);have cp3:=zN cp H4;clear H4 e0 e1 e2 e3 e6 e7 e8 cp2 HL d4 d5;go_wp2;go_roundg p
 case measure=>have:=HG.out;omega
 exact⟨p,a::acc,Nat.le_refl _,yo,rfl,by rw[b2.out],HE.out,H5,H8.out⟩
theorem xW {α:Type}{l:List α}{x d:α}(h:i<l.length):(l++[x]).getD i d=l.getD i d:=by
 rw[List.getD_eq_getElem?_getD,List.getElem?_append_left h,<-List.getD_eq_getElem?_getD]
theorem wP {α:Type}{l:List α}{x d:α}(h:i=l.length):(l++[x]).getD i d=x:=by
 subst h;rw[List.getD_eq_getElem?_getD,List.getElem?_append_right (Nat.le_refl _)];simp
theorem aZ {a:Nat}(h:qA pre a9 m k)(hp:pre.length=m)(hl:a9.length=m)(h1:p<m)(h2:a<k):qA (pre++[(p:Int)]) (a9++[(a:Int)]) (m+1) k:=by
 intro i hi;rcases Nat.lt_or_ge i m with h3|h3
 ·rw[xW yo,xW yo]
  exact h i h3
 rw[wP yo,wP yo];exact .inr ⟨yo,yo,yo,yo⟩
def RowX (X:Nat->Prop)(e:TypeId)(w:World)(v:Value)(xs:List Value):Prop:=RowT w.heap.size e w v xs/\∀k,v.ownBlock=some k->X k
def wG (X:Nat->Prop)(w w':World):Prop:=∀k,X k->w'.heap[k]?=w.heap[k]?
theorem wG.trans {X:Nat->Prop}{a b c:World}(h:wG X a b)(h':wG X b c):wG X a c:=fun k hk=>(h' k hk).trans (h k hk)
theorem wG.refl (X:Nat->Prop)(w:World):wG X w w:=fun _ _=>rfl
theorem RowX.kept {X:Nat->Prop}{e:TypeId}{w w':World}(h:RowX X e w v xs)(hk:wG X w w')(hs:w.heap.size<=w'.heap.size):RowX X e w' v xs:=by
 refine⟨?_,h.2⟩;rcases h.1 with h1|⟨b,off,cap,cur,m,h1,h2,h3,h4,h5,h6⟩
 ·exact .inl h1
 exact .inr ⟨b,off,cap,cur,m,h1,yo,h3,h4,(hk b (h.2 b (by rw[h1];rfl))).trans h5,h6⟩
theorem RowX.mono {X X':Nat->Prop}{e:TypeId}{w:World}(h:RowX X e w v xs)(hX:∀k,X k->X' k):RowX X' e w v xs:=⟨h.1,fun k hk=>hX k (h.2 k hk)⟩
theorem RowX.row {X:Nat->Prop}{e:TypeId}{w:World}(h:RowX X e w v xs):Row w.heap.size w v xs:=h.1.row
theorem RowX.of_owns {X:Nat->Prop}{w:World}{e:Nat}(h:w.ownsRow base e 1 v n xs)(hX:∀k,v.ownBlock=some k->X k):RowX X e w v xs:=⟨RowT.of_owns h,hX⟩
def xX {α:Type}(X:Nat->Prop)(e:TypeId)(f:α->List Value)(w:World)(hs:List Value)(ts:List α):Prop :=
 hs.length=ts.length/\∀i (h:i<hs.length) (h':i<ts.length),RowX X e w hs[i] (f ts[i])
section
variable {α:Type} {X X':Nat->Prop} {e:TypeId} {f:α->List Value} {w w':World} {hs:List Value} {ts:List α}
theorem xX.nil:xX X e f w [] []:=⟨rfl,fun i h=>by simp at h⟩
theorem xX.kept (h:xX X e f w hs ts)(hk:wG X w w')(a9:w.heap.size<=w'.heap.size):xX X e f w' hs ts:=⟨h.1,fun i h1 h2=>(h.2 i h1 h2).kept hk a9⟩
theorem xX.mono (h:xX X e f w hs ts)(hX:∀k,X k->X' k):xX X' e f w hs ts:=⟨h.1,fun i h1 h2=>(h.2 i h1 h2).mono hX⟩
theorem xX.snoc {t:α}(h:xX X e f w hs ts)(hv:RowX X e w v (f t)):xX X e f w (hs++[v]) (ts++[t]):=by
 refine⟨by simp[h.1],fun i h1 h2=>?_⟩;by_cases hi:i<hs.length
 ·rw[List.getElem_append_left hi]
  simp only[List.getElem_append_left (show i<ts.length by rw[<-h.1];exact hi)];exact h.2 i hi _
 have:i=hs.length:=by simp at h1;omega
 subst this;rw[List.getElem_append_right (Nat.le_refl _)];simp only[List.getElem_append_right (show ts.length<=hs.length by rw[h.1];exact Nat.le_refl _)];simpa [h.1] using hv
end
structure EMem (X:Nat->Prop)(W:World)(rs:List RowS):Prop where
 own:∀r∈rs,W.ownsRow r.base r.e r.sz r.v r.n r.xs
 apart:rs.Pairwise (fun r s=>∀k,r.v.ownBlock=some k->s.v.ownBlock≠some k)
 offX:∀r∈rs,∀k,r.v.ownBlock=some k->¬X k
 lt:∀k,X k->k<W.heap.size
def qE (rs:List RowS)(k:Nat):Prop:=∃r∈rs,r.v.ownBlock=some k
section
variable {X:Nat->Prop} {W W':World} {rs rs':List RowS}
theorem EMem.many (h:EMem X W rs)(F:Nat->Prop)(hF:∀k,qE rs k->F k):Many W F W rs [] []:=Many.start h.own (fun r hr k hk=>hF k ⟨r,hr,hk⟩) h.apart
theorem EMem.grow (h:EMem X W rs)(hg:W.grownBy W' none):EMem X W' rs:=⟨fun r hr=>zZ (h.own r hr) hg,h.apart,h.offX,fun k hk=>Nat.lt_of_lt_of_le (h.lt k hk) hg.size⟩
theorem wG.of_grown {row:Option Nat}(a9:∀k,X k->k<W.heap.size)(hg:W.grownBy W' row)(hr:∀k,row=some k->¬X k):wG X W W':=fun k hk=>hg.block k (a9 k hk) (fun e=>hr k e.symm hk)
theorem EMem.keep (h:EMem X W rs)(hg:W.grownBy W' none):wG X W W':=wG.of_grown h.lt hg yq
theorem EMem.after (h:EMem X W rs)(hM:Many W F W' rs' ls [])(hF:∀k,F k->¬X k):EMem X W' rs' where
 own:=fun r hr=>by
  obtain⟨i,hi,e⟩:=List.getElem_of_mem hr
  exact hM.own i r (by rw[List.getElem?_eq_getElem hi,e])
 apart:=by
  rw[List.pairwise_iff_getElem];intro i j hi hj h0;exact hM.apart i j _ _ yo (List.getElem?_eq_getElem hi) (List.getElem?_eq_getElem hj)
 offX:=fun r hr k hk hx=>by
  obtain⟨i,hi,e⟩:=List.getElem_of_mem hr;rcases hM.mine i r (by rw[List.getElem?_eq_getElem hi,e]) k hk with hf|hf
  ·exact hF k hf hx
  ·have:=h.lt k hx;omega
 lt:=fun k hk=>Nat.lt_of_lt_of_le (h.lt k hk) hM.but.size
theorem EMem.keepMany (h:EMem X W rs)(hM:Many W F W' rs' ls [])(hF:∀k,F k->¬X k):wG X W W':=fun k hk=>hM.but.block k (h.lt k hk) (fun hf=>hF k hf hk)
theorem EMem.far (h:EMem X W rs)(hg:W.grownBy W' (some o))(hr:∀r∈rs,r.v.ownBlock≠some o):EMem X W' rs where
 own:=fun r hr'=>(h.own r hr').kept hg (.inr (hr r hr'))
 apart:=h.apart
 offX:=h.offX
 lt:=fun k hk=>Nat.lt_of_lt_of_le (h.lt k hk) hg.size
theorem EMem.retire (h:EMem X W (rs++[r])):EMem (fun k=>X k\/r.v.ownBlock=some k) W rs where
 own:=fun s hs=>h.own s (List.mem_append_left _ hs)
 apart:=(List.pairwise_append.1 h.apart).1
 offX:=fun s hs k hk hx=>by
  rcases hx with hx|hx
  ·exact h.offX s (List.mem_append_left _ hs) k hk hx
  ·exact(List.pairwise_append.1 h.apart).2.2 s hs r yq k hk hx
 lt:=fun k hx=>by
  rcases hx with hx|hx
  ·exact h.lt k hx
  ·exact((h.own r yq).lt k hx).2
theorem EMem.fresh (h:EMem X W rs)(hg:W.grownBy W' none){Y:Nat->Prop}(hY:∀k,Y k->W.heap.size<=k/\k<W'.heap.size):EMem (fun k=>X k\/Y k) W' rs where
 own:=fun r hr=>zZ (h.own r hr) hg
 apart:=h.apart
 offX:=fun r hr k hk hx=>by
  rcases hx with hx|hx
  ·exact h.offX r hr k hk hx
  ·have:=((h.own r hr).lt k hk).2
   have:=(hY k hx).1
   omega
 lt:=fun k hx=>by
  rcases hx with hx|hx
  ·exact Nat.lt_of_lt_of_le (h.lt k hx) hg.size
  ·exact(hY k hx).2
theorem EMem.add (h:EMem X W rs)(hg:W.grownBy W' none)(ho:W'.ownsRow r.base r.e r.sz r.v r.n r.xs)(hn:∀k,r.v.ownBlock=some k->W.heap.size<=k):EMem X W' (rs++[r]) where
 own:=fun s hs=>by
  rcases List.mem_append.1 hs with hs|hs
  ·exact zZ (h.own s hs) hg
  ·rw[List.mem_singleton]at hs;subst hs;exact ho
 apart:=by
  rw[List.pairwise_append];refine⟨h.apart,yq,fun s hs t ht k hk e=>?_⟩;rw[List.mem_singleton]at ht;subst ht;have:=((h.own s hs).lt k hk).2;have:=hn k e;omega
 offX:=fun s hs k hk hx=>by
  rcases List.mem_append.1 hs with hs|hs
  ·exact h.offX s hs k hk hx
  ·rw[List.mem_singleton]at hs;subst hs
   have:=h.lt k hx;have:=hn k hk;omega
 lt:=fun k hk=>Nat.lt_of_lt_of_le (h.lt k hk) hg.size
end
theorem xX.rowsT {α:Type}{X:Nat->Prop}{e:TypeId}{f:α->List Value}{w:World}{hs:List Value}{ts:List α}(h:xX X e f w hs ts):tN w.heap.size e f w hs ts:=⟨h.1,fun i h3 h4=>(h.2 i h3 h4).1⟩
theorem EMem.appAt {X:Nat->Prop}{W W':World}{rs:List RowS}(h:EMem X W rs){j:Nat}(hr:rs[j]?=some r){v':Value}{n':Nat}(ho:W'.ownsRow r.base r.e r.sz v' n' (r.xs++us))(hg:W.grownBy W' r.v.ownBlock)(hm:nW W W' r.v v'):EMem X W' (rs.set j ⟨r.base,r.e,v',n',r.xs++us,r.sz⟩) :=
 h.after ((h.many (qE rs) (fun _ h=>h)).append hr ho hg hm) (fun k hk=>by obtain⟨r,hr,hk⟩:=hk;exact h.offX r hr k hk)
theorem EMem.dropLast {X:Nat->Prop}{W:World}{rs:List RowS}(h:EMem X W (rs++[r])):EMem X W rs:=⟨fun s hs=>h.own s (List.mem_append_left _ hs),(List.pairwise_append.1 h.apart).1,fun s hs=>h.offX s (List.mem_append_left _ hs),h.lt⟩
theorem Arr.rowT' {w:World}{cap:Nat}{e:TypeId}(h:Arr w g e xs)(hc:xs.length<=cap)(hm:cap<=maxLen):RowT w.heap.size e w (.slice (some ⟨g,0,none⟩) xs.length cap) xs:=by
 have h1:=h.lt;obtain⟨cur,rest,hg,h0⟩:=h;refine .inr ⟨g,0,cap,cur,(0,0),rfl,h1,hc,hm,hg,fun i hi=>?_⟩;rw[Nat.zero_add,<-Array.getElem?_toList,h0,List.getElem?_append_left hi,List.getElem?_eq_getElem hi]
def TX (X:Nat->Prop)(w:World)(v:Value)(ts:List (List Nat)):Prop:=∃hs,RowX X 22 w v hs/\xX X 3 nats w hs ts
theorem TX.kept {X:Nat->Prop}{w w':World}{ts:List (List Nat)}(h:TX X w v ts)(hk:wG X w w')(hs:w.heap.size<=w'.heap.size):TX X w' v ts:=by
 obtain⟨l,h1,h2⟩:=h;exact⟨l,h1.kept hk hs,h2.kept hk hs⟩
theorem TX.mono {X X':Nat->Prop}{w:World}{ts:List (List Nat)}(h:TX X w v ts)(hX:∀k,X k->X' k):TX X' w v ts:=by
 obtain⟨l,h1,h2⟩:=h;exact⟨l,h1.mono hX,h2.mono hX⟩
theorem TX.tmat {X:Nat->Prop}{w:World}{ts:List (List Nat)}(h:TX X w v ts):TMat w.heap.size w v ts:=by
 obtain⟨l,h1,h2⟩:=h;exact⟨l,h1.1.row,h2.1,fun i h3 h4=>(h2.2 i h3 h4).1⟩
theorem qCT {X:Nat->Prop}{w:World}{hs:List Value}{ts:List (List Nat)}(ho:w.ownsRow base 22 1 v n hs)(h:xX X 3 nats w hs ts):TMat w.heap.size w v ts:=⟨hs,Row.of_owns ho,h.rowsT⟩
def uV (l:List (List Nat)):List Value:=l.map fun u=>.string (strOfNums (lets u))
theorem qAI (l:List (List Nat)):(uV l).length=l.length:=by simp[uV]
theorem Arr.strL {w:World}{e:TypeId}{l:List (List Nat)}(h:Arr w g e (uV l))(i:Nat)(hi:i<l.length):w.cell? ⟨g,i,none⟩=some (.string (strOfNums (lets (l.getD i [])))):=by
 rw[h.cell i (by rw[qAI];exact hi)];simp[uV,List.getD_eq_getElem?_getD,hi]
theorem jL {W:World}{e:Nat}(h:W.heap[g]?=some (.cells xs.toArray e (0,0)))(hb:base<=g)(hk:xs.length=k)(hm:k<=maxLen):W.ownsRow base e 1 (.slice (some ⟨g,0,none⟩) k k) k xs :=
 ⟨yo,.inr ⟨g,k,xs.toArray,rfl,hb,h,Nat.le_refl _,hm,by simp[hk],by simp[<-hk]⟩⟩
def yO (gs:List (List Nat))(n:Nat):Nat->List (List Nat)×List Int×List Int
 | 0=>([List.range n],[-1],[-1])
 | x+1=>if gs.getD x []∈(yO gs n x).1 then yO gs n x else ((yO gs n x).1++[gs.getD x []],(yO gs n x).2.1++[0],(yO gs n x).2.2++[(x:Int)])
theorem qC {w:World}{e:Nat}{z0 z1 z2 z3 z4 z5 z6 z7 z8:Value}(h:w.heap[p]?=some (.cells #[z0,z1,z2,z3,z4,z5,z6,z7,z8] e (0,0)))(x0 x1 x2 x3 x4 x5 x6 x7 x8:Value):(((((((((w.setCell ⟨p,0,none⟩ x0).setCell ⟨p,1,none⟩ x1).setCell ⟨p,2,none⟩ x2).setCell ⟨p,3,none⟩ x3).setCell ⟨p,4,none⟩ x4).setCell ⟨p,5,none⟩ x5).setCell ⟨p,6,none⟩ x6).setCell ⟨p,7,none⟩ x7).setCell ⟨p,8,none⟩ x8).heap[p]?=some (.cells #[x0,x1,x2,x3,x4,x5,x6,x7,x8] e (0,0))/\w.grownBy (((((((((w.setCell ⟨p,0,none⟩ x0).setCell ⟨p,1,none⟩ x1).setCell ⟨p,2,none⟩ x2).setCell ⟨p,3,none⟩ x3).setCell ⟨p,4,none⟩ x4).setCell ⟨p,5,none⟩ x5).setCell ⟨p,6,none⟩ x6).setCell ⟨p,7,none⟩ x7).setCell ⟨p,8,none⟩ x8) (some p):=by
 have s0:=heap_setCell_same w p 0 _ _ x0 h;have s1:=heap_setCell_same _ p 1 _ _ x1 s0;have s2:=heap_setCell_same _ p 2 _ _ x2 s1;have s3:=heap_setCell_same _ p 3 _ _ x3 s2;have s4:=heap_setCell_same _ p 4 _ _ x4 s3;have s5:=heap_setCell_same _ p 5 _ _ x5 s4;have s6:=heap_setCell_same _ p 6 _ _ x6 s5;have s7:=heap_setCell_same _ p 7 _ _ x7 s6;have s8:=heap_setCell_same _ p 8 _ _ x8 s7;refine⟨by rw[s8];simp,?_⟩;have t:=fun(W:World) (i:Nat) (u:Value)=>zH W ⟨p,i,none⟩ u;exact zI (zI (zI (zI (zI (zI (zI (zI (t _ 0 _) (t _ 1 _)) (t _ 2 _)) (t _ 3 _)) (t _ 4 _)) (t _ 5 _)) (t _ 6 _)) (t _ 7 _)) (t _ 8 _)
theorem OwnT.other {w w':World}{ts:List (List Nat)}{r e:Nat}{c:Array Value}{m:Nat×Nat}(h:OwnT base w v n ts)(hg:w.grownBy w' (some r))(hr:w.heap[r]?=some (.cells c e m))(h1:e≠22)(h2:e≠3):OwnT base w' v n ts:=by
 obtain⟨hs,h3,h4,h5⟩:=h;exact⟨hs,h3.kept hg (.inr (zR h3 hr (Ne.symm h1))),(h4.kept hg (fun k e=>.inr (by have e:=Oj e;subst e;exact⟨_,_,_,hr,h2⟩))).mono hg.size,h5⟩
inductive start5I (n b0 o0:Nat)(gs:List (List Nat))(hv:Value)(vg:Value)(w5:World)(a0:Act)(l:Array Bool)(a:Act)(w:World):Prop
 | mk (x30:Value) (x31:Value) (x6:Value) (o:Nat) (ha:a=yK a0 [(30,x30),(31,x31),(6,x6)]) (HR:∀j∈[0,1,2,3,4,5],l.getD j true=true) (H6:Hid (l.getD 6 true=true->∃sa sc,x30=.slice sa gs.length sc/\OwnT 0 w (.slice sa gs.length sc) gs.length gs)) (H7:Hid (l.getD 7 true=true->l.getD 6 true=true/\x31=.agg #[.int .i64 n,.bool true,x30,.slice none 0 0,.slice none 0 0,.slice none 0 0,.slice none 0 0,.slice none 0 0,.int .i64 0])) (H8:Hid (l.getD 8 true=true->x6=.pointer (some ⟨o,0,none⟩)/\w5.heap.size<=o)) (B1:Hid (l.getD 8 true=true->(l.getD 9 true=false->w.heap[o]?=some (.cells #[.int .i64 0,.bool false,.slice none 0 0,.slice none 0 0,.slice none 0 0,.slice none 0 0,.slice none 0 0,.slice none 0 0,.int .i64 0] 75 (0,0))))) (B2:Hid (l.getD 9 true=true->l.getD 6 true=true/\l.getD 8 true=true/\w.heap[o]?=some (.cells #[.int .i64 n,.bool true,x30,.slice none 0 0,.slice none 0 0,.slice none 0 0,.slice none 0 0,.slice none 0 0,.int .i64 0] 75 (0,0)))) (HG:(w5.grownBy w none))
theorem qMT {w:World}(hc:w5.cell? ⟨b0,o0,none⟩=some hv)(h:start5I n b0 o0 gs hv vg w5 a0 l a w):xM 9 (fun _=>True) (fun W=>W.cell? ⟨b0,o0,none⟩=some hv) l w:=by
 obtain⟨x30,x31,x6,o,ha,HR,H6,H7,H8,B1,B2,HG⟩:=h;exact⟨trivial,fun _=>zN hc HG⟩
theorem qMS {w:World}(h:start5I n b0 o0 gs hv vg w5 a0 l a w):∀j∈[0,1,2,3,4,5],l.getD j true=true:=by
 obtain⟨x30,x31,x6,o,ha,HR,H6,H7,H8,B1,B2,HG⟩:=h;exact HR
theorem qAJ {v6 j6 j7 g2 g5 c3 c4 c5 a3 a4 a5 a6 a7 a8:Value}{dd:_}(j5:a0=⟨#[v0,v1,v2,v3,v4,v5,v6,v7,v8,v9,j6,j7,j8,j9,i0,i1,i2,i3,i4,i5,i6,i7,i8,i9,vg,.pointer (some ⟨b0,o0,none⟩),hv,.int .i64 n,.bool true,vg,g0,g1,g2,g3,g4,g5,g6,g7,g8,g9,f9,e0,e1,e2,e3,e4,e5,e6,e7,e8,e9,d0,d1,d2,d3,d4,d5,d6,d7,d8,d9,c0,c1,c2,c3,c4,c5,c6,c7,c8,c9,b1,b2,b3,b4,b5,b6,b7,b8,b9,a1,a2,a3,a4,a5,a6,a7,a8],dd⟩)(j4:∀W:World,w5.grownBy W none->Calls Tryz.prog 78 #[vg] W (eW W gs))(a9:Array Oper)(Q7:Exit->Act->World->Prop):qI (mX Tryz.prog .any a9 Q7 (start5I n b0 o0 gs hv vg w5 a0)) 0 (rL Tryz.f61 5).toList:=by
 refine kT fun l a w h=>?_;have HH:=h;obtain⟨x30,x31,x6,o,ha,HR,H6,H7,H8,B1,B2,HG⟩:=h;have h2:=fun(x30 x31 x6:Value)=>(show yK a0 [(30,x30),(31,x31),(6,x6)]=_ from by simp only[j5,yK,List.foldl_cons,List.foldl_nil,Act.put,sPa,sPb,sPc];exact rfl);refine⟨?s0,?s1,?s2,?s3,?s4,?s5,?s6,?s7,?s8,?s9,trivial⟩
 case s6 =>
  intro h3 h0 K hK;rw[ha,h2];go_simp
  go_at_call 78
  refine(j4 w HG).mono ?_;rintro e w6 ⟨sa,sc,rfl,h1,h5⟩;refine hK.out _ _ ?_;refine⟨(.slice sa gs.length sc),x31,x6,o,(by rw[h2]),fun j hj=>zF (HR j hj),Kh (fun _=>⟨sa,sc,rfl,h1.base (Nat.zero_le _)⟩),(hs7A H7 h3),(hs7P H8),Kh (fun h h9=>zD (B1.out (zG jd h) (zK h9)) h5),(hs7A B2 h3),zE HG h5⟩
 case s7 =>
  intro h3 h0 K hK;have DH6:=H6.out (zO (h0 ⟨6,.data⟩ yq rfl));obtain⟨sa,sc,rfl,h1⟩:=DH6;rw[ha,h2];go_simp;refine hK.out _ _ ?_;refine⟨(.slice sa gs.length sc),(.agg #[.int .i64 n,.bool true,.slice sa gs.length sc,.slice none 0 0,.slice none 0 0,.slice none 0 0,.slice none 0 0,.slice none 0 0,.int .i64 0]),x6,o,(by rw[h2]),fun j hj=>zF (HR j hj),Kh (fun _=>⟨sa,sc,rfl,h1⟩),Kh (fun _=>⟨zF (zO (h0 ⟨6,.data⟩ yq rfl)),rfl⟩),(hs7P H8),Kh (fun h h9=>B1.out (zG jd h) (zK h9)),(hs7R B2),HG⟩
 case s8 =>
  intro h3 h0 K hK;rw[ha,h2];go_simp;refine hK.out _ _ ?_;refine⟨x30,x31,(.pointer (some ⟨w.heap.size,0,none⟩)),w.heap.size,(by rw[h2]),fun j hj=>zF (HR j hj),Kh (fun h=>let ⟨sa,sc,e,ho⟩:=H6.out (zG jd h);⟨sa,sc,e,ho.grow (Ga w (.cells #[.int .i64 0,.bool false,.slice none 0 0,.slice none 0 0,.slice none 0 0,.slice none 0 0,.slice none 0 0,.slice none 0 0,.int .i64 0] 75) none)⟩),(hs7Q H7),Kh (fun _=>⟨rfl,HG.size⟩),Kh (fun _ _=>heap_alloc_new w _),(hs7B B2 h3),zE HG (Ga w (.cells #[.int .i64 0,.bool false,.slice none 0 0,.slice none 0 0,.slice none 0 0,.slice none 0 0,.slice none 0 0,.slice none 0 0,.int .i64 0] 75) none)⟩
 case s9 =>
  intro h3 h0 K hK;have DH8:=H8.out (zO (h0 ⟨8,.data⟩ yq rfl));have DB1:=B1.out (zO (h0 ⟨8,.data⟩ yq rfl));have DH7:=H7.out (zO (h0 ⟨7,.data⟩ yq rfl));have DH6:=H6.out (zO (h0 ⟨6,.chain⟩ yq rfl));obtain⟨rfl,ho⟩:=DH8;obtain⟨sa,sc,rfl,h1⟩:=DH6;obtain⟨h6,rfl⟩:=DH7;have h8:=zO (h0 ⟨8,.data⟩ yq rfl);have hb:=DB1 h3;rw[ha,h2];obtain⟨k0,k1,k2,k3,k4,k5,k6,k7,k8⟩:=yD hb;have f0:=zB hb 0;have f1:=zB hb 1;have f2:=zB hb 2;have f3:=zB hb 3;have f4:=zB hb 4;have f5:=zB hb 5;have f6:=zB hb 6;have f7:=zB hb 7;have f8:=zB hb 8;go_simp;obtain⟨h7,h4⟩:=qC hb (.int .i64 n) (.bool true) (.slice sa gs.length sc) (.slice none 0 0) (.slice none 0 0) (.slice none 0 0) (.slice none 0 0) (.slice none 0 0) (.int .i64 0);refine hK.out _ _ ?_;refine⟨(.slice sa gs.length sc),(.agg #[.int .i64 n,.bool true,.slice sa gs.length sc,.slice none 0 0,.slice none 0 0,.slice none 0 0,.slice none 0 0,.slice none 0 0,.int .i64 0]),(.pointer (some ⟨o,0,none⟩)),o,(by rw[h2]),fun j hj=>zF (HR j hj),Kh (fun _=>⟨sa,sc,rfl,h1.other h4 hb jd jd⟩),Kh (fun _=>⟨zF h6,rfl⟩),Kh (fun _=>⟨rfl,ho⟩),Kh (fun _ h9=>yF h9),Kh (fun _=>⟨zF h6,zF h8,h7⟩),yM HG h4 (by show _<=o;omega)⟩
 all_goals exact hs7Z (qMS HH _ yq)
inductive start16I (n P o m u x:Nat)(f:List Nat)(pre las:List Int)(us hsE:List Value)(sE:Option Addr)(cE:Nat)(sP:Option Addr)(cP:Nat)(sL:Option Addr)(cL:Nat)(sU:Option Addr)(cU:Nat)(gv:Value)(w4:World)(FF:Nat->Prop)(a0:Act)(l:Array Bool)(a:Act)(w:World):Prop
 | mk (x68:Value) (x70:Value) (x71:Value) (x72:Value) (x76:Value) (x77:Value) (x81:Value) (x82:Value) (x83:Value) (x84:Value) (x85:Value) (vE:Value) (nE:Nat) (xE:List Value) (vP:Value) (nP:Nat) (xP:List Value) (vL:Value) (nL:Nat) (xL:List Value) (vF:Value) (nF:Nat) (xF:List Value) (ls:List (Nat×Obj)) (c3:Value) (c4:Value) (c5:Value) (ha:a=yK a0 [(68,x68),(70,x70),(71,x71),(72,x72),(76,x76),(77,x77),(81,x81),(82,x82),(83,x83),(84,x84),(85,x85)]) (HR:∀j∈[0,1,3,7,8,9,12,13,14],l.getD j true=true) (H2n:Hid (l.getD 2 true=false->vF=.slice none 0 0/\nF=0/\xF=[])) (H2:Hid (l.getD 2 true=true->(l.getD 4 true=false->∃g,x68=.slice (some ⟨g,0,none⟩) 0 0/\vF=.slice (some ⟨g,0,none⟩) 0 0/\nF=0/\xF=[]))) (H4:Hid (l.getD 4 true=true->l.getD 2 true=true/\∃sa sc,x70=.slice sa n sc/\vF=.slice sa n sc/\n=nF/\xF=nats f)) (H5:Hid (l.getD 5 true=true->l.getD 4 true=true/\∃g,x71=.slice (some ⟨g,0,none⟩) 1 1/\(g,Obj.cells #[vF] 22 (0,0))∈ls)) (H6n:Hid (l.getD 6 true=false->vE=.slice sE m cE/\m=nE/\hsE=xE)) (H6:Hid (l.getD 6 true=true->l.getD 4 true=true/\∃sa sc,vE=.slice sa (m+1) sc/\x72=.slice sa (m+1) sc/\nE=m+1/\xE=hsE++[vF])) (H10:Hid (l.getD 10 true=true->∃g,x76=.slice (some ⟨g,0,none⟩) 1 1/\(g,Obj.cells #[.int .i64 0] 3 (0,0))∈ls)) (H11n:Hid (l.getD 11 true=false->vP=.slice sP m cP/\m=nP/\xP=ints pre)) (H11:Hid (l.getD 11 true=true->l.getD 6 true=true/\∃sa sc,vP=.slice sa (m+1) sc/\x77=.slice sa (m+1) sc/\nP=m+1/\xP=ints pre++[.int .i64 0])) (H15:Hid (l.getD 15 true=true->∃g,x81=.slice (some ⟨g,0,none⟩) 1 1/\(g,Obj.cells #[.int .i64 x] 3 (0,0))∈ls)) (H16n:Hid (l.getD 16 true=false->vL=.slice sL m cL/\m=nL/\xL=ints las)) (H16:Hid (l.getD 16 true=true->l.getD 11 true=true/\∃sa sc,vL=.slice sa (m+1) sc/\x82=.slice sa (m+1) sc/\nL=m+1/\xL=ints las++[.int .i64 x])) (H17:Hid (l.getD 17 true=true->x83=.pointer (some ⟨o,3,none⟩))) (H19:Hid (l.getD 19 true=true->x84=.pointer (some ⟨o,4,none⟩))) (H21:Hid (l.getD 21 true=true->x85=.pointer (some ⟨o,5,none⟩))) (B3n:Hid (l.getD 18 true=false->c3=.slice sE m cE)) (B3:Hid (l.getD 18 true=true->l.getD 6 true=true/\l.getD 16 true=true/\c3=vE)) (B4n:Hid (l.getD 20 true=false->c4=.slice sP m cP)) (B4:Hid (l.getD 20 true=true->l.getD 11 true=true/\l.getD 18 true=true/\c4=vP)) (B5n:Hid (l.getD 22 true=false->c5=.slice sL m cL)) (B5:Hid (l.getD 22 true=true->l.getD 16 true=true/\l.getD 20 true=true/\c5=vL)) (HB:(w.heap[o]?=some (.cells #[.int .i64 n,.bool true,gv,c3,c4,c5,.slice none 0 0,.slice sU u cU,.int .i64 0] 75 (0,0)))) (HM:(Many w4 FF w [⟨P,22,vE,nE,xE,1⟩,⟨P,3,vP,nP,xP,1⟩,⟨P,3,vL,nL,xL,1⟩,⟨P,111,.slice sU u cU,u,us,2⟩,⟨P,3,vF,nF,xF,1⟩] ls []))
theorem qIS {f:List Nat}{w:World}(h:start16I n P o m u x f pre a9 us a8 sE cE sP cP sL cL sU cU gv w4 FF a0 l a w):xM 18 (fun _=>True) (fun W=>W.cell? ⟨o,3,none⟩=some (.slice sE m cE)/\W.cell? ⟨o,4,none⟩=some (.slice sP m cP)/\W.cell? ⟨o,5,none⟩=some (.slice sL m cL)) l w:=by
 obtain⟨x68,x70,x71,x72,x76,x77,x81,x82,x83,x84,x85,vE,nE,xE,vP,nP,xP,vL,nL,xL,vF,nF,xF,ls,c3,c4,c5,ha,HR,h5,H2,H4,H5,h4,H6,H3,h3,H1,H0,h2,h9,h8,h7,h6,B3n,B3,B4n,B4,B5n,B5,HB,HM⟩:=h;obtain⟨k0,k1,k2,k3,k4,k5,k6,k7,k8⟩:=yD HB;refine⟨trivial,fun h18=>?_⟩
 have h0:l.getD 20 true=false:=by
  rcases h0:l.getD 20 true with _|_
  ·rfl
  have:=(B4.out h0).2.1;rw[h18]at this;cases this
 have h1:l.getD 22 true=false:=by
  rcases h1:l.getD 22 true with _|_
  ·rfl
  have:=(B5.out h1).2.1;rw[h0]at this;cases this
 rw[B3n.out h18]at k3;rw[B4n.out h0]at k4;rw[B5n.out h1]at k5;exact⟨k3,k4,k5⟩
theorem qIR {f:List Nat}{w:World}(h:start16I n P o m u x f pre a9 us a8 sE cE sP cP sL cL sU cU gv w4 FF a0 l a w):∀j∈[0,1,3,7,8,9,12,13,14],l.getD j true=true:=by
 obtain⟨x68,x70,x71,x72,x76,x77,x81,x82,x83,x84,x85,vE,nE,xE,vP,nP,xP,vL,nL,xL,vF,nF,xF,ls,c3,c4,c5,ha,HR,h3,H2,H4,H5,h2,H6,H0,h1,h9,h8,h0,h7,h6,h5,h4,B3n,B3,B4n,B4,B5n,B5,HB,HM⟩:=h;exact HR
theorem bP {fa:Option Addr}{fc:Nat}{f:List Nat}{a6:List Int}{a5:List Value}{f0 f1 f2 f3 f4 f5 f6 f7 f8 b0:Value}{dd:_}(j6:a0=⟨#[v0,v1,v2,v3,v4,v5,.pointer (some ⟨o,0,none⟩),v7,v8,v9,j8,j9,i0,i1,i2,i3,i4,i5,i6,i7,i8,i9,g0,g1,g3,g4,g6,g7,g8,g9,f0,f1,f2,f3,f4,f5,f6,f7,f8,f9,e0,e1,e2,e3,e4,e5,e6,e7,e8,e9,d0,d1,d2,d3,d4,d5,d6,d7,d8,d9,c0,c1,c2,c6,c7,c8,.pointer (some ⟨o,3,none⟩),.slice sE m cE,c9,.slice fa n fc,b0,b1,b2,.pointer (some ⟨o,4,none⟩),.slice sP m cP,.int .i64 0,b3,b4,.pointer (some ⟨o,5,none⟩),.slice sL m cL,.int .i64 x,b5,b6,b7,b8,b9,a1,a2],dd⟩)(j7:n<=32)(j5:m<=7)(a9:P<=w4.heap.size)(a3:FF o)(a4:o<w4.heap.size)(a8:∀W:World,GrownBut w4 W FF->tM W 1 (.slice fa n fc) n (nats f))(a7:Array Oper)(Q7:Exit->Act->World->Prop):qI (mX Tryz.prog .any a7 Q7 (start16I n P o m u x f pre a6 us a5 sE cE sP cP sL cL sU cU gv w4 FF a0)) 0 (rL Tryz.f61 16).toList:=by
 refine kT fun l a w h=>?_;have HH:=h;obtain⟨x68,x70,x71,x72,x76,x77,x81,x82,x83,x84,x85,vE,nE,xE,vP,nP,xP,vL,nL,xL,vF,nF,xF,ls,c3,c4,c5,ha,HR,j1,H2,H4,H5,h9,H6,j0,h7,H9,H8,h6,H7,H3,H1,H0,B3n,B3,B4n,B4,B5n,B5,HB,HM⟩:=h;have h5:=fun(x68 x70 x71 x72 x76 x77 x81 x82 x83 x84 x85:Value)=>(show yK a0 [(68,x68),(70,x70),(71,x71),(72,x72),(76,x76),(77,x77),(81,x81),(82,x82),(83,x83),(84,x84),(85,x85)]=_ from by simp only[j6,yK,List.foldl_cons,List.foldl_nil,Act.put,sPa,sPb,sPc];exact rfl);refine⟨?s0,?s1,?s2,?s3,?s4,?s5,?s6,?s7,?s8,?s9,?s10,?s11,?s12,?s13,?s14,?s15,?s16,?s17,?s18,?s19,?s20,?s21,?s22,trivial⟩
 case s2 =>
  intro h3 h0 K hK;obtain⟨rfl,rfl,rfl⟩:=j1.out h3;rw[ha,h5];go_simp;have j2:=HM.lit0 (j:=4) rfl a9;refine hK.out _ _ ?_;refine⟨(.slice (some ⟨w.heap.size,0,none⟩) 0 0),x70,x71,x72,x76,x77,x81,x82,x83,x84,x85,vE,nE,xE,vP,nP,xP,vL,nL,xL,(.slice (some ⟨w.heap.size,0,none⟩) 0 0),0,[],ls,c3,c4,c5,(by rw[h5]),fun j hj=>zF (HR j hj),Kh (fun h=>yF h),Kh (fun _ _=>⟨w.heap.size,rfl,rfl,rfl,rfl⟩),(hs7A H4 h3),Kh (fun h=>absurd (H4.out (H5.out (zG jd h)).1).1 (by rw[h3];simp)),(hs7N h9),Kh (fun h=>absurd (H4.out (H6.out (zG jd h)).1).1 (by rw[h3];simp)),(hs7P j0),(hs7N h7),(hs7Q H9),(hs7P H8),(hs7N h6),(hs7Q H7),(hs7P H3),(hs7P H1),(hs7P H0),(hs7N B3n),(hs7R B3),(hs7N B4n),(hs7R B4),(hs7N B5n),(hs7R B5),zD HB (Ga w (.cells #[] 3) none),j2⟩
 case s4 =>
  intro h3 h0 K hK;have DH2:=H2.out (zO (h0 ⟨2,.data⟩ yq rfl));obtain⟨g2,rfl,rfl,rfl,rfl⟩:=DH2 h3;have j4:=zO (h0 ⟨2,.data⟩ yq rfl);simp only[ha,h5,Act.put,sPa,sPb,sPc];have l3:tM w 1 (.slice fa n fc) n (nats f):=a8 w HM.but;refine rU (by simp[Region.wanted]) (.tmp 68) (.tmp 69) 22 rfl yJ.toN 4 _ rfl HM rfl rfl rfl rfl l3 ?g14 (Nat.zero_add n) ?g24 ?g34 a9 ?_
  case g14=>intro u hu;obtain⟨y,_,rfl⟩:=List.mem_map.1 hu;rfl
  case g24=>unfold maxLen;omega
  case g34=>omega
  intro sa sc w6 j2 h8;rw[List.nil_append]at j2;refine hK.out _ _ ?_;refine⟨(.slice (some ⟨g2,0,none⟩) 0 0),(.slice sa n sc),x71,x72,x76,x77,x81,x82,x83,x84,x85,vE,nE,xE,vP,nP,xP,vL,nL,xL,(.slice sa n sc),n,(nats f),ls,c3,c4,c5,(by simp only[h5,Act.put,sPa,sPb,sPc]),fun j hj=>zF (HR j hj),Kh (fun h=>absurd (zF j4) (by rw[h];simp)),Kh (fun _ h4=>yF h4),Kh (fun _=>⟨zF j4,sa,sc,rfl,rfl,rfl,rfl⟩),(hs7A H5 h3),(hs7N h9),(hs7A H6 h3),(hs7P j0),(hs7N h7),(hs7Q H9),(hs7P H8),(hs7N h6),(hs7Q H7),(hs7P H3),(hs7P H1),(hs7P H0),(hs7N B3n),(hs7R B3),(hs7N B4n),(hs7R B4),(hs7N B5n),(hs7R B5),zD HB h8 (fun e=>HM.not_type HB yq 4 _ rfl e),j2⟩
 case s5 =>
  intro h3 h0 K hK;have DH4:=H4.out (zO (h0 ⟨4,.data⟩ yq rfl));obtain⟨j4,sa,sc,rfl,rfl,rfl,rfl⟩:=DH4;have k9:=zO (h0 ⟨4,.data⟩ yq rfl);rw[ha,h5];go_simp;refine hK.out _ _ ?_;refine⟨x68,(Value.slice sa n sc),(.slice (some ⟨w.heap.size,0,none⟩) 1 1),x72,x76,x77,x81,x82,x83,x84,x85,vE,nE,xE,vP,nP,xP,vL,nL,xL,(Value.slice sa n sc),n,(nats f),((w.heap.size,Obj.cells #[Value.slice sa n sc] 22 (0,0))::ls),c3,c4,c5,(by rw[h5]),fun j hj=>zF (HR j hj),Kh (fun h=>absurd (zF j4) (by rw[h];simp)),Kh (fun h h4=>absurd (zF k9) (by rw[h4];simp)),Kh (fun _=>⟨zF j4,sa,sc,rfl,rfl,rfl,rfl⟩),Kh (fun _=>⟨zF k9,w.heap.size,rfl,List.Mem.head _⟩),(hs7N h9),(hs7Q H6),Kh (fun h=>let ⟨g,h1,h2⟩:=j0.out (zG jd h);⟨g,h1,List.Mem.tail _ h2⟩),(hs7N h7),(hs7Q H9),Kh (fun h=>let ⟨g,h1,h2⟩:=H8.out (zG jd h);⟨g,h1,List.Mem.tail _ h2⟩),(hs7N h6),(hs7Q H7),(hs7P H3),(hs7P H1),(hs7P H0),(hs7N B3n),(hs7R B3),(hs7N B4n),(hs7R B4),(hs7N B5n),(hs7R B5),zD HB (Ga w (.cells #[Value.slice sa n sc] 22) none),HM.alloc (.cells #[Value.slice sa n sc] 22)⟩
 case s6 =>
  intro h3 h0 K hK;have DH5:=H5.out (zO (h0 ⟨5,.data⟩ yq rfl));obtain⟨k9,g5,rfl,j3⟩:=DH5;obtain⟨j4,s4,c4',e70,rfl,l6,l5⟩:=H4.out k9;obtain⟨rfl,rfl,rfl⟩:=h9.out h3;simp only[ha,h5,Act.put,sPa,sPb,sPc];refine tL (by simp[Region.wanted]) (.tmp 67) (.tmp 71) 27 rfl xT 0 g5 1 rfl HM rfl rfl rfl rfl ?g16 ?g26 ?g36 j3 rfl ?_
  case g16=>show m+1<=maxLen;unfold maxLen;omega
  case g26=>show (m+1)*24<=140737488355328;omega
  case g36=>exact a9
  intro sa sc w6 j2 h8;refine hK.out _ _ ?_;refine⟨x68,x70,(.slice (some ⟨g5,0,none⟩) 1 1),(.slice sa (m+1) sc),x76,x77,x81,x82,x83,x84,x85,(.slice sa (m+1) sc),(m+1),(a5++[Value.slice s4 n c4']),vP,nP,xP,vL,nL,xL,(Value.slice s4 n c4'),nF,xF,ls,c3,c4,c5,(by simp only[h5,Act.put,sPa,sPb,sPc]),fun j hj=>zF (HR j hj),Kh (fun h=>absurd (zF j4) (by rw[h];simp)),Kh (fun h h4=>absurd (zF k9) (by rw[h4];simp)),Kh (fun _=>⟨zF j4,s4,c4',e70,rfl,l6,l5⟩),Kh (fun _=>⟨zF k9,g5,rfl,j3⟩),Kh (fun h=>yF h),Kh (fun _=>⟨zF k9,sa,sc,rfl,rfl,rfl,rfl⟩),(hs7P j0),(hs7N h7),(hs7A H9 h3),(hs7P H8),(hs7N h6),(hs7Q H7),(hs7P H3),(hs7P H1),(hs7P H0),(hs7N B3n),(hs7A B3 h3),(hs7N B4n),(hs7R B4),(hs7N B5n),(hs7R B5),zD HB h8 (fun e=>HM.not_type HB yq 0 _ rfl e),j2⟩
 case s10 =>
  intro h3 h0 K hK;rw[ha,h5];go_simp;refine hK.out _ _ ?_;refine⟨x68,x70,x71,x72,(.slice (some ⟨w.heap.size,0,none⟩) 1 1),x77,x81,x82,x83,x84,x85,vE,nE,xE,vP,nP,xP,vL,nL,xL,vF,nF,xF,((w.heap.size,Obj.cells #[Value.int .i64 0] 3 (0,0))::ls),c3,c4,c5,(by rw[h5]),fun j hj=>zF (HR j hj),(hs7N j1),Kh (fun h h4=>H2.out (zG jd h) (zK h4)),(hs7Q H4),Kh (fun h=>⟨zF (H5.out (zG jd h)).1,let ⟨g,h1,h2⟩:=(H5.out (zG jd h)).2;⟨g,h1,List.Mem.tail _ h2⟩⟩),(hs7N h9),(hs7Q H6),Kh (fun _=>⟨w.heap.size,rfl,List.Mem.head _⟩),(hs7N h7),(hs7Q H9),Kh (fun h=>let ⟨g,h1,h2⟩:=H8.out (zG jd h);⟨g,h1,List.Mem.tail _ h2⟩),(hs7N h6),(hs7Q H7),(hs7P H3),(hs7P H1),(hs7P H0),(hs7N B3n),(hs7R B3),(hs7N B4n),(hs7R B4),(hs7N B5n),(hs7R B5),zD HB (Ga w (.cells #[Value.int .i64 0] 3) none),HM.alloc (.cells #[Value.int .i64 0] 3)⟩
 case s11 =>
  intro h3 h0 K hK;have DH10:=j0.out (zO (h0 ⟨10,.data⟩ yq rfl));obtain⟨g5,rfl,j3⟩:=DH10;obtain⟨rfl,rfl,rfl⟩:=h7.out h3;have l4:=zO (h0 ⟨6,.chain⟩ yq rfl);simp only[ha,h5,Act.put,sPa,sPb,sPc];refine tL (by simp[Region.wanted]) (.tmp 74) (.tmp 76) 22 rfl yJ 1 g5 1 rfl HM rfl rfl rfl rfl ?g111 ?g211 ?g311 j3 rfl ?_
  case g111=>show m+1<=maxLen;unfold maxLen;omega
  case g211=>show (m+1)*8<=140737488355328;omega
  case g311=>exact a9
  intro sa sc w6 j2 h8;refine hK.out _ _ ?_;refine⟨x68,x70,x71,x72,(.slice (some ⟨g5,0,none⟩) 1 1),(.slice sa (m+1) sc),x81,x82,x83,x84,x85,vE,nE,xE,(.slice sa (m+1) sc),(m+1),((ints pre)++[Value.int .i64 0]),vL,nL,xL,vF,nF,xF,ls,c3,c4,c5,(by simp only[h5,Act.put,sPa,sPb,sPc]),fun j hj=>zF (HR j hj),(hs7N j1),Kh (fun h h4=>H2.out (zG jd h) (zK h4)),(hs7Q H4),(hs7Q H5),(hs7N h9),(hs7Q H6),Kh (fun _=>⟨g5,rfl,j3⟩),Kh (fun h=>yF h),Kh (fun _=>⟨zF l4,sa,sc,rfl,rfl,rfl,rfl⟩),(hs7P H8),(hs7N h6),(hs7A H7 h3),(hs7P H3),(hs7P H1),(hs7P H0),(hs7N B3n),(hs7R B3),(hs7N B4n),(hs7A B4 h3),(hs7N B5n),(hs7R B5),zD HB h8 (fun e=>HM.not_type HB yq 1 _ rfl e),j2⟩
 case s15 =>
  intro h3 h0 K hK;rw[ha,h5];go_simp;refine hK.out _ _ ?_;refine⟨x68,x70,x71,x72,x76,x77,(.slice (some ⟨w.heap.size,0,none⟩) 1 1),x82,x83,x84,x85,vE,nE,xE,vP,nP,xP,vL,nL,xL,vF,nF,xF,((w.heap.size,Obj.cells #[Value.int .i64 (x:Int)] 3 (0,0))::ls),c3,c4,c5,(by rw[h5]),fun j hj=>zF (HR j hj),(hs7N j1),Kh (fun h h4=>H2.out (zG jd h) (zK h4)),(hs7Q H4),Kh (fun h=>⟨zF (H5.out (zG jd h)).1,let ⟨g,h1,h2⟩:=(H5.out (zG jd h)).2;⟨g,h1,List.Mem.tail _ h2⟩⟩),(hs7N h9),(hs7Q H6),Kh (fun h=>let ⟨g,h1,h2⟩:=j0.out (zG jd h);⟨g,h1,List.Mem.tail _ h2⟩),(hs7N h7),(hs7Q H9),Kh (fun _=>⟨w.heap.size,rfl,List.Mem.head _⟩),(hs7N h6),(hs7Q H7),(hs7P H3),(hs7P H1),(hs7P H0),(hs7N B3n),(hs7R B3),(hs7N B4n),(hs7R B4),(hs7N B5n),(hs7R B5),zD HB (Ga w (.cells #[Value.int .i64 (x:Int)] 3) none),HM.alloc (.cells #[Value.int .i64 (x:Int)] 3)⟩
 case s16 =>
  intro h3 h0 K hK;have DH15:=H8.out (zO (h0 ⟨15,.data⟩ yq rfl));obtain⟨g5,rfl,j3⟩:=DH15;obtain⟨rfl,rfl,rfl⟩:=h6.out h3;have l4:=zO (h0 ⟨11,.chain⟩ yq rfl);simp only[ha,h5,Act.put,sPa,sPb,sPc];refine tL (by simp[Region.wanted]) (.tmp 79) (.tmp 81) 22 rfl yJ 2 g5 1 rfl HM rfl rfl rfl rfl ?g116 ?g216 ?g316 j3 rfl ?_
  case g116=>show m+1<=maxLen;unfold maxLen;omega
  case g216=>show (m+1)*8<=140737488355328;omega
  case g316=>exact a9
  intro sa sc w6 j2 h8;refine hK.out _ _ ?_;refine⟨x68,x70,x71,x72,x76,x77,(.slice (some ⟨g5,0,none⟩) 1 1),(.slice sa (m+1) sc),x83,x84,x85,vE,nE,xE,vP,nP,xP,(.slice sa (m+1) sc),(m+1),((ints a6)++[Value.int .i64 (x:Int)]),vF,nF,xF,ls,c3,c4,c5,(by simp only[h5,Act.put,sPa,sPb,sPc]),fun j hj=>zF (HR j hj),(hs7N j1),Kh (fun h h4=>H2.out (zG jd h) (zK h4)),(hs7Q H4),(hs7Q H5),(hs7N h9),(hs7Q H6),(hs7P j0),(hs7N h7),(hs7Q H9),Kh (fun _=>⟨g5,rfl,j3⟩),Kh (fun h=>yF h),Kh (fun _=>⟨zF l4,sa,sc,rfl,rfl,rfl,rfl⟩),(hs7P H3),(hs7P H1),(hs7P H0),(hs7N B3n),(hs7B B3 h3),(hs7N B4n),(hs7R B4),(hs7N B5n),(hs7A B5 h3),zD HB h8 (fun e=>HM.not_type HB yq 2 _ rfl e),j2⟩
 case s17 =>
  intro h3 h0 K hK;rw[ha,h5];go_simp;refine hK.out _ _ ?_;refine⟨x68,x70,x71,x72,x76,x77,x81,x82,(.pointer (some ⟨o,3,none⟩)),x84,x85,vE,nE,xE,vP,nP,xP,vL,nL,xL,vF,nF,xF,ls,c3,c4,c5,(by rw[h5]),fun j hj=>zF (HR j hj),(hs7N j1),Kh (fun h h4=>H2.out (zG jd h) (zK h4)),(hs7Q H4),(hs7Q H5),(hs7N h9),(hs7Q H6),(hs7P j0),(hs7N h7),(hs7Q H9),(hs7P H8),(hs7N h6),(hs7Q H7),Kh (fun _=>rfl),(hs7P H1),(hs7P H0),(hs7N B3n),(hs7R B3),(hs7N B4n),(hs7R B4),(hs7N B5n),(hs7R B5),HB,HM⟩
 case s18 =>
  intro h3 h0 K hK;have DH17:=H3.out (zO (h0 ⟨17,.data⟩ yq rfl));have DH6:=H6.out (zO (h0 ⟨6,.data⟩ yq rfl));subst DH17;obtain⟨l1,sa,sc,rfl,rfl,rfl,rfl⟩:=DH6;have l2:=zO (h0 ⟨6,.data⟩ yq rfl);rw[ha,h5];obtain⟨k0,k1,k2,k3,k4,k5,k6,k7,k8⟩:=yD HB;have kf:=zB HB 3;go_simp;have h8:=zH w ⟨o,3,none⟩ (.slice sa (m+1) sc);have l0:=heap_setCell_same w o 3 _ _ (.slice sa (m+1) sc) HB;refine hK.out _ _ ?_;refine⟨x68,x70,x71,(.slice sa (m+1) sc),x76,x77,x81,x82,(.pointer (some ⟨o,3,none⟩)),x84,x85,(.slice sa (m+1) sc),(m+1),(a5++[vF]),vP,nP,xP,vL,nL,xL,vF,nF,xF,ls,(.slice sa (m+1) sc),c4,c5,(by rw[h5]),fun j hj=>zF (HR j hj),(hs7N j1),Kh (fun h h4=>H2.out (zG jd h) (zK h4)),(hs7Q H4),(hs7Q H5),Kh (fun h=>absurd (zF l2) (by rw[h];simp)),Kh (fun _=>⟨zF l1,sa,sc,rfl,rfl,rfl,rfl⟩),(hs7P j0),(hs7N h7),(hs7Q H9),(hs7P H8),(hs7N h6),(hs7Q H7),Kh (fun _=>rfl),(hs7P H1),(hs7P H0),Kh (fun h=>yF h),Kh (fun _=>⟨zF (zO (h0 ⟨6,.data⟩ yq rfl)),zF (zO (h0 ⟨16,.chain⟩ yq rfl)),rfl⟩),(hs7N B4n),(hs7B B4 h3),(hs7N B5n),(hs7R B5),(by simpa using l0),HM.far h8 a3 a4 (HM.not_type HB yq)⟩
 case s19 =>
  intro h3 h0 K hK;rw[ha,h5];go_simp;refine hK.out _ _ ?_;refine⟨x68,x70,x71,x72,x76,x77,x81,x82,x83,(.pointer (some ⟨o,4,none⟩)),x85,vE,nE,xE,vP,nP,xP,vL,nL,xL,vF,nF,xF,ls,c3,c4,c5,(by rw[h5]),fun j hj=>zF (HR j hj),(hs7N j1),Kh (fun h h4=>H2.out (zG jd h) (zK h4)),(hs7Q H4),(hs7Q H5),(hs7N h9),(hs7Q H6),(hs7P j0),(hs7N h7),(hs7Q H9),(hs7P H8),(hs7N h6),(hs7Q H7),(hs7P H3),Kh (fun _=>rfl),(hs7P H0),(hs7N B3n),(hs7R B3),(hs7N B4n),(hs7R B4),(hs7N B5n),(hs7R B5),HB,HM⟩
 case s20 =>
  intro h3 h0 K hK;have DH19:=H1.out (zO (h0 ⟨19,.data⟩ yq rfl));have DH11:=H9.out (zO (h0 ⟨11,.data⟩ yq rfl));subst DH19;obtain⟨l1,sa,sc,rfl,rfl,rfl,rfl⟩:=DH11;have l2:=zO (h0 ⟨11,.data⟩ yq rfl);rw[ha,h5];obtain⟨k0,k1,k2,k3,k4,k5,k6,k7,k8⟩:=yD HB;have kf:=zB HB 4;go_simp;have h8:=zH w ⟨o,4,none⟩ (.slice sa (m+1) sc);have l0:=heap_setCell_same w o 4 _ _ (.slice sa (m+1) sc) HB;refine hK.out _ _ ?_;refine⟨x68,x70,x71,x72,x76,(.slice sa (m+1) sc),x81,x82,x83,(.pointer (some ⟨o,4,none⟩)),x85,vE,nE,xE,(.slice sa (m+1) sc),(m+1),(ints pre++[Value.int .i64 0]),vL,nL,xL,vF,nF,xF,ls,c3,(.slice sa (m+1) sc),c5,(by rw[h5]),fun j hj=>zF (HR j hj),(hs7N j1),Kh (fun h h4=>H2.out (zG jd h) (zK h4)),(hs7Q H4),(hs7Q H5),(hs7N h9),(hs7Q H6),(hs7P j0),Kh (fun h=>absurd (zF l2) (by rw[h];simp)),Kh (fun _=>⟨zF l1,sa,sc,rfl,rfl,rfl,rfl⟩),(hs7P H8),(hs7N h6),(hs7Q H7),(hs7P H3),Kh (fun _=>rfl),(hs7P H0),(hs7N B3n),(hs7R B3),Kh (fun h=>yF h),Kh (fun _=>⟨zF (zO (h0 ⟨11,.data⟩ yq rfl)),zF (zO (h0 ⟨18,.chain⟩ yq rfl)),rfl⟩),(hs7N B5n),(hs7B B5 h3),(by simpa using l0),HM.far h8 a3 a4 (HM.not_type HB yq)⟩
 case s21 =>
  intro h3 h0 K hK;rw[ha,h5];go_simp;refine hK.out _ _ ?_;refine⟨x68,x70,x71,x72,x76,x77,x81,x82,x83,x84,(.pointer (some ⟨o,5,none⟩)),vE,nE,xE,vP,nP,xP,vL,nL,xL,vF,nF,xF,ls,c3,c4,c5,(by rw[h5]),fun j hj=>zF (HR j hj),(hs7N j1),Kh (fun h h4=>H2.out (zG jd h) (zK h4)),(hs7Q H4),(hs7Q H5),(hs7N h9),(hs7Q H6),(hs7P j0),(hs7N h7),(hs7Q H9),(hs7P H8),(hs7N h6),(hs7Q H7),(hs7P H3),(hs7P H1),Kh (fun _=>rfl),(hs7N B3n),(hs7R B3),(hs7N B4n),(hs7R B4),(hs7N B5n),(hs7R B5),HB,HM⟩
 case s22 =>
  intro h3 h0 K hK;have DH21:=H0.out (zO (h0 ⟨21,.data⟩ yq rfl));have DH16:=H7.out (zO (h0 ⟨16,.data⟩ yq rfl));subst DH21;obtain⟨l1,sa,sc,rfl,rfl,rfl,rfl⟩:=DH16;have l2:=zO (h0 ⟨16,.data⟩ yq rfl);rw[ha,h5];obtain⟨k0,k1,k2,k3,k4,k5,k6,k7,k8⟩:=yD HB;have kf:=zB HB 5;go_simp;have h8:=zH w ⟨o,5,none⟩ (.slice sa (m+1) sc);have l0:=heap_setCell_same w o 5 _ _ (.slice sa (m+1) sc) HB;refine hK.out _ _ ?_;refine⟨x68,x70,x71,x72,x76,x77,x81,(.slice sa (m+1) sc),x83,x84,(.pointer (some ⟨o,5,none⟩)),vE,nE,xE,vP,nP,xP,(.slice sa (m+1) sc),(m+1),(ints a6++[Value.int .i64 (x:Int)]),vF,nF,xF,ls,c3,c4,(.slice sa (m+1) sc),(by rw[h5]),fun j hj=>zF (HR j hj),(hs7N j1),Kh (fun h h4=>H2.out (zG jd h) (zK h4)),(hs7Q H4),(hs7Q H5),(hs7N h9),(hs7Q H6),(hs7P j0),(hs7N h7),(hs7Q H9),(hs7P H8),Kh (fun h=>absurd (zF l2) (by rw[h];simp)),Kh (fun _=>⟨zF l1,sa,sc,rfl,rfl,rfl,rfl⟩),(hs7P H3),(hs7P H1),Kh (fun _=>rfl),(hs7N B3n),(hs7R B3),(hs7N B4n),(hs7R B4),Kh (fun h=>yF h),Kh (fun _=>⟨zF (zO (h0 ⟨16,.data⟩ yq rfl)),zF (zO (h0 ⟨20,.chain⟩ yq rfl)),rfl⟩),(by simpa using l0),HM.far h8 a3 a4 (HM.not_type HB yq)⟩
 all_goals exact hs7Z (qIR HH _ yq)
end Go.Proofs.YtiknckajkdlppaaGreat
