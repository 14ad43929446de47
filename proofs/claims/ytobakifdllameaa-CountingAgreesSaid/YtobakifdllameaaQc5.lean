/- Part 5 of the proof. -/
import Derived.Test.YtobakifdllameaaQc4
set_option linter.unusedVariables false
set_option linter.unusedSimpArgs false
set_option maxRecDepth 100000
set_option maxHeartbeats 16000000
namespace Go.Proofs.Ytobakifdllameaa
open Go.RowKit
theorem qLT (B:Nat)(w:World)(v:Value)(ts:List (List Nat))(hB:B<=w.heap.size)(h:TMat B w v ts)(hl:ts.length<=4096)(hr:∀t∈ts,t.length<=4096):Calls Try.prog 104 #[v] w (dL w ts):=by
 obtain⟨ta,tc,rfl⟩:=h.shape;have HT:=Kh h;have HR:=Kh hr;clear h hr;go_enter Try.func104,Try.ntmps104;go_wp2
 go_loopg [3,5,8] ts.length (fun gh v3 a5 i wr=>∃(k:Nat) (sa:Option Addr) (sc:Nat),gh+k=ts.length/\i=.int .i64 k/\v3=.slice sa k sc/\OwnT w.heap.size wr (.slice sa k sc) k (ts.take k)/\w.grownBy wr none)
 case atStart=>exact⟨0,none,0,rfl,rfl,rfl,by simpa using OwnT.nil _ _,zV _ _⟩
 obtain⟨k,sa,sc,hg,rfl,rfl,h3,h6⟩:=hrel;obtain⟨HG,h4,H9⟩:=K3 hg h3 h6;clear hg;by_cases hk:k<ts.length
 ·have b2:(k:Int)<ts.length:=by omega
  have h5:=HT.out.kept h6 (by simp);obtain⟨b,off,cap,e,b3,a2,_,_,h7⟩:=h5.head (by omega);simp only[Value.slice.injEq]at e;obtain⟨rfl,-,rfl⟩:=e;obtain⟨a,c,ch,h2⟩:=h7 k hk;have b1:tc<=9223372036854775807:=by unfold maxLen at a2;omega
  have H2:Hid (ts.take (k+1)=ts.take k++[ts.getD k []]):=Kh (yD hk);have a1:(ts.getD k []).length<=4096:=HR.out _ (by rw[zK hk];exact List.getElem_mem _);obtain⟨t,ht⟩:=Nm (ts.getD k []);rw[<-ht]at ch h2 H2 a1;have h9:=Kh h2;have a9:=h6.size;clear ht h5 h7 h2 h6 h3;go_wp2_with (first|(at_builtin;refine appR rfl _ _ _ rfl yJ wr.heap.size (.slice (some ⟨wr.heap.size,0,none⟩) 0 0) 0 [] rfl (qCC (heap_alloc_new wr _) (Nat.le_refl _)) _ (nats t) rfl ⟨_,h9.out.row.kept (Ga wr _ none) (by simp)⟩ (qNS _) t.length (by simp[nats]) (by unfold maxLen;omega) (by omega) (by rw[zX];omega) ?_;intro sr cr w6 h1 H7;(have a4:=Kh h1);(have H1:Hid (wr.grownBy w6 none):=Kh (zC (Ga wr (.cells #[] 3) none) H7 (fun x e=>by have:wr.heap.size=x:=Oj e;omega)));clear h1 H7;obtain⟨hs,H5,H4,H3⟩:=h4.out.grow H1.out;(have H0:=Kh H5);(have a7:=Kh H4);(have a6:=Kh H3);(have b0:=H1.out.size);clear H5 H4 H3)|(at_builtin;refine app1 rfl _ _ _ rfl wP w.heap.size _ k hs rfl H0.out _ rfl rfl ?c1 ?c2 ?c3 ?_)|fail)
  case c1=>unfold maxLen;omega
  case c2=>omega
  case c3=>omega
  intro sa' sc' w8 h0 h8 a0
  have a3:Hid (OwnT w.heap.size w8 (.slice sa' (k+1) sc') (k+1) (ts.take (k+1))):=Kh (by
   rw[H2.out]
   exact OwnT.push H0.out a7.out a6.out (RowT.of_owns a4.out) h0 h8)
  have a8:Hid (w.grownBy w8 none):=Kh (zC (zH H9.out H1.out) h8 (fun x e=>(H0.out.lt x e).1));clear h0 h8;go_wp2;go_roundg (ts.length-(k+1))
  case measure=>have:=HG.out;omega
  exact⟨k+1,sa',sc',by omega,by go_num,rfl,a3.out,a8.out⟩
 have H6:k=ts.length:=by have:=HG.out;omega
 have HE:Hid (ts.take k=ts):=Kh (List.take_of_length_le (by omega));have H8:=Kh H6;rw[HE.out]at h4;clear H6 h6 h3;go_wp2;go_ret;exact⟨sa,sc,by rw[<-H8.out];rfl,by rw[<-H8.out];exact h4.out,H9.out⟩
theorem qGP (B:Nat)(w:World)(v:Value)(f:List Nat)(n:Nat)(h:Row B w v (nats f))(hf:IsT n f)(h1:1<=n)(a9:n<=32):Calls Try.prog 110 #[v] w fun e w'=>e=.returned (.bool true)/\w=w':=by
 obtain⟨b,off,cap,rfl,_,h4,h3,h2⟩:=h.some_ (by rw[zR,hf.1];omega);have h7:cap<=9223372036854775807:=by unfold maxLen at h3;omega
 rw[zR,hf.1]at h4⊢;have h5:=Kh h2;have HF:=Kh hf;clear h hf h2 h3;go_enter Try.func110,Try.ntmps110;go_wp2
 go_loopg [15] n (fun gh i wr=>∃k:Nat,gh+k=n/\i=.int .i64 k/\w=wr)
 case atStart=>exact⟨0,rfl,rfl,rfl⟩
 obtain⟨k,hg,rfl,rfl⟩:=hrel;have HG:=Kh hg;clear hg;by_cases hk:k<n
 ·have ck:=h5.out.nat k (by rw[HF.out.1];exact hk)
  have hx:=HF.out.get hk;obtain⟨x,h0⟩:=Nm (f.getD k 0);rw[<-h0]at ck hx;have h6:(x:Int)<n:=(by omega);clear h0;go_wp2;go_roundg (n-(k+1))
  case measure=>have:=HG.out;omega
  exact⟨k+1,by omega,by go_num,rfl⟩
 go_wp2;go_ret;exact⟨rfl,rfl⟩
theorem qEJ (B:Nat)(w:World)(v:Value)(ts:List (List Nat))(n:Nat)(h:TMat B w v ts)(a9:∀t∈ts,IsT n t)(h1:1<=n)(a6:n<=32)(a7:1<=ts.length)(a8:ts.length<=6):Calls Try.prog 103 #[v] w fun e w'=>e=.returned (.bool true)/\w=w':=by
 obtain⟨b,off,cap,rfl,h9,h8,_,_,h0⟩:=h.head (by omega);have H3:cap<=9223372036854775807:=by unfold maxLen at h8;omega
 have H0:=h0 0 (by omega);obtain⟨a0,c0,ch0,h2⟩:=H0;have h7:(ts.getD 0 []).length=n:=(a9 _ (by rw[zK (by omega)];exact List.getElem_mem _)).1;rw[h7]at ch0;rw[Nat.add_zero]at ch0;have h4:=Kh h0;have H1:=Kh a9;obtain⟨L,hL⟩:=Nm ts.length;rw[<-hL]at h9 a7 a8 h4⊢;have H2:=Kh hL;clear h a9 h0 h8 h2 h7 hL;go_enter Try.func103,Try.ntmps103;go_wp2
 go_loopg [15] L (fun gh i wr=>∃k:Nat,gh+k=L/\i=.int .i64 k/\w=wr)
 case atStart=>exact⟨0,rfl,rfl,rfl⟩
 obtain⟨k,hg,rfl,rfl⟩:=hrel;have HG:=Kh hg;clear hg;by_cases hk:k<L
 ·obtain⟨a,c,ch,h3⟩:=h4.out k hk
  have h5:IsT n (ts.getD k []):=H1.out _ (by rw[zK (by have:=H2.out;omega)];exact List.getElem_mem _);have h6:=h5.1;have HV:=Kh (qGP B w _ _ n h3.row h5 h1 a6);rw[h6]at ch HV;have e1:((n:Int) != (n:Int))=false:=by simp
  clear h3 h5 h6;go_wp2_with fail;refine HV.out.mono ?_;rintro e w1 ⟨rfl,rfl⟩;go_wp2;go_roundg (L-(k+1))
  case measure=>have:=HG.out;omega
  exact⟨k+1,by omega,by go_num,rfl⟩
 go_wp2;go_ret;exact⟨rfl,rfl⟩
theorem gG (w:World)(a:Nat)(ha:a<26):Calls Try.prog 84 #[.int .i64 (a:Int)] w fun e w'=>e=.returned (.string (strOfNums [97+(a:Int)]))/\w.grownBy w' none:=by
 have h1:IntKind.u8.wrap (97+(a:Int))=97+(a:Int):=IntWalk.u8_in _ (by omega);obtain⟨X,hX⟩:=Nm (strOfNums [97+(a:Int)]);have h0:∀(W:World) (g:Nat),W.cell? ⟨g,0,none⟩=some (.int .u8 (97+(a:Int)))->(convert 30 9 (.slice (some ⟨g,0,none⟩) 1 1)).run Try.prog W=.ok (.string X) W:=fun W g h=>by rw[hX];exact eK 30 5 Try.underlying30 Try.underlying5 9 Try.underlying9 h
 rw[<-hX];clear hX;go_enter Try.func84,Try.ntmps84;go_wp2;go_ret;exact⟨rfl,Ga _ _ none⟩
end Go.Proofs.Ytobakifdllameaa
namespace Go.Proofs.Ytobakifdllameaa
def lets (w:List Nat):List Int:=w.map fun(a:Nat)=>97+(a:Int)
def aD (pre las:List Int):Nat->Nat->List Nat
 | 0,_=>[]
 | f+1,i=>if las.getD i 0<0 then [] else aD pre las f (pre.getD i 0).toNat++[(las.getD i 0).toNat]
def vJ (pre las:List Int)(i:Nat):List Nat:=aD pre las (i+1) i
def qA (pre las:List Int)(n k:Nat):Prop:=∀i,i<n->las.getD i 0<0\/(0<=las.getD i 0/\las.getD i 0<k/\0<=pre.getD i 0/\pre.getD i 0<i)
theorem qIT {pre a9:List Int}{n k:Nat}(h:qA pre a9 n k):∀(i f g:Nat),i<n->i<f->i<g->aD pre a9 f i=aD pre a9 g i:=by
 intro i
 induction i using Nat.strongRecOn with
 | ind i ih =>
  intro f g hi hf hg
  match f,g,hf,hg with
  | f+1,g+1,hf,hg =>
   rw[aD,aD]
   split
   ·rfl
   rename_i hl
   rcases h i hi with h1|⟨h1,h2,h3,h4⟩
   ·exact absurd h1 hl
   rw[ih (pre.getD i 0).toNat (by omega) f g (by omega) (by omega) (by omega)]
theorem qGO {pre a9:List Int}{n k:Nat}(h:qA pre a9 n k)(f i:Nat)(hi:i<n)(hf:i<f):aD pre a9 f i=vJ pre a9 i:=qIT h i f (i+1) hi hf (by omega)
theorem oM {pre a9:List Int}{i:Nat}(h:a9.getD i 0<0):vJ pre a9 i=[]:=by rw[vJ,aD,if_pos h]
theorem oO {pre a9:List Int}{n k i:Nat}(h:qA pre a9 n k)(hi:i<n)(hl:¬a9.getD i 0<0):vJ pre a9 i=vJ pre a9 (pre.getD i 0).toNat++[(a9.getD i 0).toNat]:=by
 rw[vJ,aD,if_neg hl];rcases h i hi with h1|⟨h1,h2,h3,h4⟩
 ·exact absurd h1 hl
 rw[qGO h i _ (by omega) (by omega)]
theorem pT {pre a9:List Int}{n k:Nat}(h:qA pre a9 n k):∀i,i<n->(∀a∈vJ pre a9 i,a<k)/\(vJ pre a9 i).length<=i:=by
 intro i
 induction i using Nat.strongRecOn with
 | ind i ih =>
  intro hi;by_cases hl:a9.getD i 0<0
  ·rw[oM hl];exact⟨fun a ha=>by simp at ha,by simp⟩
  rcases h i hi with h1|⟨h1,h2,h3,h4⟩
  ·exact absurd h1 hl
  rw[oO h hi hl];have:=ih (pre.getD i 0).toNat (by omega) (by omega);refine⟨fun a ha=>?_,by rw[List.length_append,List.length_singleton];omega⟩;rcases List.mem_append.1 ha with ha|ha
  ·exact this.1 a ha
  rw[List.mem_singleton]at ha;omega
open Go.RowKit
theorem zJ {w w':World}{p:Addr}{u:Value}(h:w.cell? p=some u)(hg:w.grownBy w' none):w'.cell? p=some u:=(World.cell?_of_block (hg.block p.block (World.block_lt_of_cell? w p h) (by simp))).trans h
theorem qFM (a b:List Int):strOfNums a++strOfNums b=strOfNums (a++b):=by
 apply ByteArray.ext;simp[strOfNums]
theorem zW {w:World}{p e:Nat}{x0 x1 x2 x3 x4 x5 x6 x7 x8:Value}(h:w.heap[p]?=some (.cells #[x0,x1,x2,x3,x4,x5,x6,x7,x8] e (0,0))):w.cell? ⟨p,0,none⟩=some x0/\w.cell? ⟨p,1,none⟩=some x1/\w.cell? ⟨p,2,none⟩=some x2/\w.cell? ⟨p,3,none⟩=some x3/\w.cell? ⟨p,4,none⟩=some x4/\w.cell? ⟨p,5,none⟩=some x5/\w.cell? ⟨p,6,none⟩=some x6/\w.cell? ⟨p,7,none⟩=some x7/\w.cell? ⟨p,8,none⟩=some x8:=by
 have c0:=zG h 0;have c1:=zG h 1;have c2:=zG h 2;have c3:=zG h 3;have c4:=zG h 4;have c5:=zG h 5;have c6:=zG h 6;have c7:=zG h 7;have c8:=zG h 8;simp only[List.getElem_toArray,List.getElem_cons_zero,List.getElem_cons_succ]at c0 c1 c2 c3 c4 c5 c6 c7 c8;exact⟨c0,c1,c2,c3,c4,c5,c6,c7,c8⟩
theorem lP (B C:Nat)(w:World)(x0 x1 x2 x3 x4 x5 x6 x7 x8:Value)(pre a9:List Int)(n k i0:Nat)(hB:B<=w.heap.size)(hC:C<=w.heap.size)(h4:Row B w x4 (ints pre))(h5:Row C w x5 (ints a9))(a8:pre.length=n)(a7:a9.length=n)(a6:qA pre a9 n k)(hk:k<=6)(hn:n<=2000)(hi:i0<n):Calls Try.prog 63 #[.agg #[x0,x1,x2,x3,x4,x5,x6,x7,x8],.int .i64 (i0:Int)] w fun e w'=>e=.returned (.string (strOfNums (lets (vJ pre a9 i0))))/\w.grownBy w' none:=by
 obtain⟨pb,po,pc,rfl,c0,H3,h7,a0⟩:=h4.some_ (by rw[zN];omega);obtain⟨qb,qo,qc,rfl,b8,H2,h6,H9⟩:=h5.some_ (by rw[zN];omega);rw[zN,a8]at H3⊢;rw[zN,a7]at H2⊢;have b0:pc<=9223372036854775807:=by unfold maxLen at h7;omega
 have a5:qc<=9223372036854775807:=by unfold maxLen at h6;omega
 obtain⟨wA,H0⟩:=Nm (w.alloc (.cells #[x0,x1,x2,x3,.slice (some ⟨pb,po,none⟩) n pc,.slice (some ⟨qb,qo,none⟩) n qc,x6,x7,x8] 90));have h0:wA.heap[w.heap.size]?=some (.cells #[x0,x1,x2,x3,.slice (some ⟨pb,po,none⟩) n pc,.slice (some ⟨qb,qo,none⟩) n qc,x6,x7,x8] 90 (0,0)):=by rw[H0];exact heap_alloc_new w _
 have h9:w.grownBy wA none:=by rw[H0];exact Ga w _ none
 obtain⟨P,hP⟩:=Nm w.heap.size;have b5:=Kh hP;rw[<-hP]at h0 hB hC;obtain⟨a4,b7,b3⟩:=K3 h0 h9 H0;have a1:=Kh (a0.kept h9 (by simp));have b4:=Kh (H9.kept h9 (by simp));obtain⟨H7,a2,b6⟩:=K3 a6 a8 a7;clear h0 h9 H0 a0 H9 h4 h5 h7 h6 a6 a8 a7;go_enter Try.func63,Try.ntmps63;go_upto_region 1 with fail;rw[<-b3.out,<-b5.out];clear hP;go_wp2
 go_loopg [1,5] n (fun gh i v5 wr=>∃(j:Nat) (acc:List Nat),j<=gh/\j<n/\i=.int .i64 j/\v5=.string (strOfNums (lets acc))/\vJ pre a9 i0=vJ pre a9 j++acc/\acc.length<=2000/\wA.grownBy wr none)
 case atStart=>exact⟨i0,[],by omega,hi,rfl,rfl,by simp,by simp,zV _ _⟩
 obtain⟨j,acc,hg,hj,rfl,rfl,hw,c3,h8⟩:=hrel;obtain⟨HW,a3,HG⟩:=K3 hw h8 hg;obtain⟨d0,d1,d2,d3,d4,d5,d6,d7,d8⟩:=zW (zB a4.out h8);have cl:=(b4.out.kept h8 (by simp)).int j (by rw[b6.out];exact hj);have cp:=(a1.out.kept h8 (by simp)).int j (by rw[a2.out];exact hj);have c1:(j:Int)<n:=by omega
 clear hw h8 hg d0 d1 d2 d3 d6 d7 d8;by_cases hl:a9.getD j 0<0
 ·have HE:Hid (vJ pre a9 i0=acc):=Kh (by rw[HW.out,oM hl];rfl)
  obtain⟨x,hx⟩:=Nm (a9.getD j 0);rw[<-hx]at cl hl;clear hx;go_wp2;go_ret;exact⟨by rw[HE.out];rfl,zH b7.out a3.out⟩
 rcases H7.out j hj with h1|⟨h1,h2,h3,h4⟩
 ·exact absurd h1 hl
 have H1:=oO H7.out hj hl;obtain⟨a,ha⟩:∃a:Nat,(a:Int)=a9.getD j 0:=⟨(a9.getD j 0).toNat,by omega⟩;obtain⟨p,hp⟩:∃p:Nat,(p:Int)=pre.getD j 0:=⟨(pre.getD j 0).toNat,by omega⟩;rw[<-ha,<-hp]at H1;rw[<-ha]at cl h1 h2;rw[<-hp]at cp h3 h4;have b9:p<j:=(by omega);have HE:Hid (vJ pre a9 i0=vJ pre a9 p++(a::acc)):=Kh (by rw[HW.out,H1];simp);have b1:=(pT H7.out i0 hi).2
 have H5:(a::acc).length<=2000:=by
  have:=congrArg List.length HE.out;rw[List.length_append]at this;omega
 have H6:a<26:=(by omega);obtain⟨X,hX⟩:=Nm (strOfNums [97+(a:Int)]);obtain⟨Y,hY⟩:=Nm (strOfNums (lets acc))
 have c2:∀W:World,(Op.stringOp .add X Y).run Try.prog W=.ok (.string (X++Y)) W:=fun W=>run_string_add_sum W X Y (by
  rw[hX,hY,strOfNums_size,strOfNums_size];simp[lets];omega)
 have b2:Hid (X++Y=strOfNums (lets (a::acc))):=Kh (by rw[hX,hY,qFM];rfl);rw[<-hY];have HL:=fun W=>Kh (gG W a H6);rw[<-hX]at HL;clear hl H1 ha hp h1 h2 h3 h4 hX hY b1;go_wp2_with fail;refine(HL _).out.mono ?_;rintro e w2 ⟨rfl,H4⟩;have H8:=Kh (zH a3.out H4);obtain⟨e0,e1,e2,e3,e4,e5,e6,e7,e8⟩:=zW (zB a4.out H8.out);have cp2:=(a1.out.kept H8.out (by simp)).int j (by rw[a2.out];exact hj);have cp3:=zJ cp H4;clear H4 e0 e1 e2 e3 e6 e7 e8 cp2 HL d4 d5;go_wp2;go_roundg p
 case measure=>have:=HG.out;omega
 exact⟨p,a::acc,Nat.le_refl _,by omega,rfl,by rw[b2.out],HE.out,H5,H8.out⟩
theorem xQ {α:Type}{l:List α}{x d:α}{i:Nat}(h:i<l.length):(l++[x]).getD i d=l.getD i d:=by
 rw[List.getD_eq_getElem?_getD,List.getElem?_append_left h,<-List.getD_eq_getElem?_getD]
theorem wJ {α:Type}{l:List α}{x d:α}{i:Nat}(h:i=l.length):(l++[x]).getD i d=x:=by
 subst h;rw[List.getD_eq_getElem?_getD,List.getElem?_append_right (Nat.le_refl _)];simp
theorem qBA {pre a9:List Int}{m k p a:Nat}(h:qA pre a9 m k)(hp:pre.length=m)(hl:a9.length=m)(h1:p<m)(h2:a<k):qA (pre++[(p:Int)]) (a9++[(a:Int)]) (m+1) k:=by
 intro i hi;rcases Nat.lt_or_ge i m with h3|h3
 ·rw[xQ (by omega),xQ (by omega)]
  exact h i h3
 rw[wJ (by omega),wJ (by omega)];exact .inr ⟨by omega,by omega,by omega,by omega⟩
def RowX (X:Nat->Prop)(e:TypeId)(w:World)(v:Value)(xs:List Value):Prop:=RowT w.heap.size e w v xs/\∀k,v.ownBlock=some k->X k
def xX (X:Nat->Prop)(w w':World):Prop:=∀k,X k->w'.heap[k]?=w.heap[k]?
theorem xX.trans {X:Nat->Prop}{a b c:World}(h:xX X a b)(h':xX X b c):xX X a c:=fun k hk=>(h' k hk).trans (h k hk)
theorem xX.refl (X:Nat->Prop)(w:World):xX X w w:=fun _ _=>rfl
theorem xX.cell {X:Nat->Prop}{w w':World}(h:xX X w w'){b i:Nat}(hb:X b){u:Value}(hc:w.cell? ⟨b,i,none⟩=some u):w'.cell? ⟨b,i,none⟩=some u:=(World.cell?_of_block (h b hb)).trans hc
theorem RowX.kept {X:Nat->Prop}{e:TypeId}{w w':World}{v:Value}{xs:List Value}(h:RowX X e w v xs)(hk:xX X w w')(hs:w.heap.size<=w'.heap.size):RowX X e w' v xs:=by
 refine⟨?_,h.2⟩;rcases h.1 with h1|⟨b,off,cap,cur,m,h1,h2,h3,h4,h5,h6⟩
 ·exact .inl h1
 exact .inr ⟨b,off,cap,cur,m,h1,by omega,h3,h4,(hk b (h.2 b (by rw[h1];rfl))).trans h5,h6⟩
theorem RowX.mono {X X':Nat->Prop}{e:TypeId}{w:World}{v:Value}{xs:List Value}(h:RowX X e w v xs)(hX:∀k,X k->X' k):RowX X' e w v xs:=⟨h.1,fun k hk=>hX k (h.2 k hk)⟩
theorem RowX.row {X:Nat->Prop}{e:TypeId}{w:World}{v:Value}{xs:List Value}(h:RowX X e w v xs):Row w.heap.size w v xs:=h.1.row
theorem RowX.of_owns {X:Nat->Prop}{w:World}{base e n:Nat}{v:Value}{xs:List Value}(h:w.ownsRow base e 1 v n xs)(hX:∀k,v.ownBlock=some k->X k):RowX X e w v xs:=⟨RowT.of_owns h,hX⟩
def xW {α:Type}(X:Nat->Prop)(e:TypeId)(f:α->List Value)(w:World)(hs:List Value)(ts:List α):Prop :=
 hs.length=ts.length/\∀i (h:i<hs.length) (h':i<ts.length),RowX X e w hs[i] (f ts[i])
section
variable {α:Type} {X X':Nat->Prop} {e:TypeId} {f:α->List Value} {w w':World} {hs:List Value} {ts:List α}
theorem xW.nil:xW X e f w [] []:=⟨rfl,fun i h=>by simp at h⟩
theorem xW.kept (h:xW X e f w hs ts)(hk:xX X w w')(a9:w.heap.size<=w'.heap.size):xW X e f w' hs ts:=⟨h.1,fun i h1 h2=>(h.2 i h1 h2).kept hk a9⟩
theorem xW.mono (h:xW X e f w hs ts)(hX:∀k,X k->X' k):xW X' e f w hs ts:=⟨h.1,fun i h1 h2=>(h.2 i h1 h2).mono hX⟩
theorem xW.snoc {v:Value}{t:α}(h:xW X e f w hs ts)(hv:RowX X e w v (f t)):xW X e f w (hs++[v]) (ts++[t]):=by
 refine⟨by simp[h.1],fun i h1 h2=>?_⟩;by_cases hi:i<hs.length
 ·rw[List.getElem_append_left hi]
  simp only[List.getElem_append_left (show i<ts.length by rw[<-h.1];exact hi)];exact h.2 i hi _
 have:i=hs.length:=by simp at h1;omega
 subst this;rw[List.getElem_append_right (Nat.le_refl _)];simp only[List.getElem_append_right (show ts.length<=hs.length by rw[h.1];exact Nat.le_refl _)];simpa [h.1] using hv
end
structure EMem (X:Nat->Prop)(W:World)(rs:List RowS):Prop where
 own:∀r∈rs,W.ownsRow r.base r.e r.sz r.v r.n r.xs
 apart:rs.Pairwise (fun r s=>∀k,r.v.ownBlock=some k->s.v.ownBlock≠some k)
 offX:∀r∈rs,∀k,r.v.ownBlock=some k->¬X k
 lt:∀k,X k->k<W.heap.size
def qM (rs:List RowS)(k:Nat):Prop:=∃r∈rs,r.v.ownBlock=some k
section
variable {X:Nat->Prop} {W W':World} {rs rs':List RowS}
theorem EMem.many (h:EMem X W rs)(F:Nat->Prop)(hF:∀k,qM rs k->F k):Many W F W rs [] []:=Many.start h.own (fun r hr k hk=>hF k ⟨r,hr,hk⟩) h.apart
theorem EMem.grow (h:EMem X W rs)(hg:W.grownBy W' none):EMem X W' rs:=⟨fun r hr=>zZ (h.own r hr) hg,h.apart,h.offX,fun k hk=>Nat.lt_of_lt_of_le (h.lt k hk) hg.size⟩
theorem xX.of_grown {row:Option Nat}(a9:∀k,X k->k<W.heap.size)(hg:W.grownBy W' row)(hr:∀k,row=some k->¬X k):xX X W W':=fun k hk=>hg.block k (a9 k hk) (fun e=>hr k e.symm hk)
theorem EMem.keep (h:EMem X W rs)(hg:W.grownBy W' none):xX X W W':=xX.of_grown h.lt hg (by simp)
theorem EMem.after {F:Nat->Prop}{ls:List (Nat×Obj)}(h:EMem X W rs)(hM:Many W F W' rs' ls [])(hF:∀k,F k->¬X k):EMem X W' rs' where
 own:=fun r hr=>by
  obtain⟨i,hi,e⟩:=List.getElem_of_mem hr
  exact hM.own i r (by rw[List.getElem?_eq_getElem hi,e])
 apart:=by
  rw[List.pairwise_iff_getElem];intro i j hi hj h0;exact hM.apart i j _ _ (by omega) (List.getElem?_eq_getElem hi) (List.getElem?_eq_getElem hj)
 offX:=fun r hr k hk hx=>by
  obtain⟨i,hi,e⟩:=List.getElem_of_mem hr;rcases hM.mine i r (by rw[List.getElem?_eq_getElem hi,e]) k hk with hf|hf
  ·exact hF k hf hx
  ·have:=h.lt k hx;omega
 lt:=fun k hk=>Nat.lt_of_lt_of_le (h.lt k hk) hM.but.size
theorem EMem.keepMany {F:Nat->Prop}{ls:List (Nat×Obj)}(h:EMem X W rs)(hM:Many W F W' rs' ls [])(hF:∀k,F k->¬X k):xX X W W':=fun k hk=>hM.but.block k (h.lt k hk) (fun hf=>hF k hf hk)
theorem EMem.far (h:EMem X W rs){o:Nat}(hg:W.grownBy W' (some o))(hr:∀r∈rs,r.v.ownBlock≠some o):EMem X W' rs where
 own:=fun r hr'=>(h.own r hr').kept hg (.inr (hr r hr'))
 apart:=h.apart
 offX:=h.offX
 lt:=fun k hk=>Nat.lt_of_lt_of_le (h.lt k hk) hg.size
theorem EMem.retire {r:RowS}(h:EMem X W (rs++[r])):EMem (fun k=>X k\/r.v.ownBlock=some k) W rs where
 own:=fun s hs=>h.own s (List.mem_append_left _ hs)
 apart:=(List.pairwise_append.1 h.apart).1
 offX:=fun s hs k hk hx=>by
  rcases hx with hx|hx
  ·exact h.offX s (List.mem_append_left _ hs) k hk hx
  ·exact(List.pairwise_append.1 h.apart).2.2 s hs r (by simp) k hk hx
 lt:=fun k hx=>by
  rcases hx with hx|hx
  ·exact h.lt k hx
  ·exact((h.own r (by simp)).lt k hx).2
theorem EMem.fresh (h:EMem X W rs)(hg:W.grownBy W' none){Y:Nat->Prop}(hY:∀k,Y k->W.heap.size<=k/\k<W'.heap.size):EMem (fun k=>X k\/Y k) W' rs where
 own:=fun r hr=>zZ (h.own r hr) hg
 apart:=h.apart
 offX:=fun r hr k hk hx=>by
  rcases hx with hx|hx
  ·exact h.offX r hr k hk hx
  ·have:=((h.own r hr).lt k hk).2
   have:=(hY k hx).1
   omega
 lt:=fun k hx=>by
  rcases hx with hx|hx
  ·exact Nat.lt_of_lt_of_le (h.lt k hx) hg.size
  ·exact(hY k hx).2
theorem EMem.add (h:EMem X W rs)(hg:W.grownBy W' none){r:RowS}(ho:W'.ownsRow r.base r.e r.sz r.v r.n r.xs)(hn:∀k,r.v.ownBlock=some k->W.heap.size<=k):EMem X W' (rs++[r]) where
 own:=fun s hs=>by
  rcases List.mem_append.1 hs with hs|hs
  ·exact zZ (h.own s hs) hg
  ·rw[List.mem_singleton]at hs;subst hs;exact ho
 apart:=by
  rw[List.pairwise_append];refine⟨h.apart,by simp,fun s hs t ht k hk e=>?_⟩;rw[List.mem_singleton]at ht;subst ht;have:=((h.own s hs).lt k hk).2;have:=hn k e;omega
 offX:=fun s hs k hk hx=>by
  rcases List.mem_append.1 hs with hs|hs
  ·exact h.offX s hs k hk hx
  ·rw[List.mem_singleton]at hs;subst hs
   have:=h.lt k hx;have:=hn k hk;omega
 lt:=fun k hk=>Nat.lt_of_lt_of_le (h.lt k hk) hg.size
theorem EMem.nil (w:World):EMem (fun _=>False) w []:=⟨fun r hr=>by simp at hr,List.Pairwise.nil,fun r hr=>by simp at hr,fun k hk=>hk.elim⟩
end
theorem xW.rowsT {α:Type}{X:Nat->Prop}{e:TypeId}{f:α->List Value}{w:World}{hs:List Value}{ts:List α}(h:xW X e f w hs ts):tW w.heap.size e f w hs ts:=⟨h.1,fun i h3 h4=>(h.2 i h3 h4).1⟩
theorem EMem.appAt {X:Nat->Prop}{W W':World}{rs:List RowS}(h:EMem X W rs){j:Nat}{r:RowS}(hr:rs[j]?=some r){v':Value}{n':Nat}{us:List Value}(ho:W'.ownsRow r.base r.e r.sz v' n' (r.xs++us))(hg:W.grownBy W' r.v.ownBlock)(hm:jO W W' r.v v'):EMem X W' (rs.set j ⟨r.base,r.e,v',n',r.xs++us,r.sz⟩) :=
 h.after ((h.many (qM rs) (fun _ h=>h)).append hr ho hg hm) (fun k hk=>by obtain⟨r,hr,hk⟩:=hk;exact h.offX r hr k hk)
theorem EMem.dropLast {X:Nat->Prop}{W:World}{rs:List RowS}{r:RowS}(h:EMem X W (rs++[r])):EMem X W rs:=⟨fun s hs=>h.own s (List.mem_append_left _ hs),(List.pairwise_append.1 h.apart).1,fun s hs=>h.offX s (List.mem_append_left _ hs),h.lt⟩
theorem Arr.rowT' {w:World}{g cap:Nat}{e:TypeId}{xs:List Value}(h:Arr w g e xs)(hc:xs.length<=cap)(hm:cap<=maxLen):RowT w.heap.size e w (.slice (some ⟨g,0,none⟩) xs.length cap) xs:=by
 have h1:=h.lt;obtain⟨cur,rest,hg,h0⟩:=h;refine .inr ⟨g,0,cap,cur,(0,0),rfl,h1,hc,hm,hg,fun i hi=>?_⟩;rw[Nat.zero_add,<-Array.getElem?_toList,h0,List.getElem?_append_left hi,List.getElem?_eq_getElem hi]
def TX (X:Nat->Prop)(w:World)(v:Value)(ts:List (List Nat)):Prop:=∃hs,RowX X 22 w v hs/\xW X 3 nats w hs ts
theorem TX.kept {X:Nat->Prop}{w w':World}{v:Value}{ts:List (List Nat)}(h:TX X w v ts)(hk:xX X w w')(hs:w.heap.size<=w'.heap.size):TX X w' v ts:=by
 obtain⟨l,h1,h2⟩:=h;exact⟨l,h1.kept hk hs,h2.kept hk hs⟩
theorem TX.mono {X X':Nat->Prop}{w:World}{v:Value}{ts:List (List Nat)}(h:TX X w v ts)(hX:∀k,X k->X' k):TX X' w v ts:=by
 obtain⟨l,h1,h2⟩:=h;exact⟨l,h1.mono hX,h2.mono hX⟩
theorem TX.tmat {X:Nat->Prop}{w:World}{v:Value}{ts:List (List Nat)}(h:TX X w v ts):TMat w.heap.size w v ts:=by
 obtain⟨l,h1,h2⟩:=h;exact⟨l,h1.1.row,h2.1,fun i h3 h4=>(h2.2 i h3 h4).1⟩
theorem qDR {base n:Nat}{X:Nat->Prop}{w:World}{v:Value}{hs:List Value}{ts:List (List Nat)}(ho:w.ownsRow base 22 1 v n hs)(h:xW X 3 nats w hs ts):TMat w.heap.size w v ts:=⟨hs,Row.of_owns ho,h.rowsT⟩
def rH (l:List (List Nat)):List Value:=l.map fun u=>.string (strOfNums (lets u))
theorem qAG {W:World}{e base g:Nat}{xs:List Value}{k:Nat}(h:W.heap[g]?=some (.cells xs.toArray e (0,0)))(hb:base<=g)(hk:xs.length=k)(hm:k<=maxLen):W.ownsRow base e 1 (.slice (some ⟨g,0,none⟩) k k) k xs :=
 ⟨by omega,.inr ⟨g,k,xs.toArray,rfl,hb,h,Nat.le_refl _,hm,by simp[hk],by simp[<-hk]⟩⟩
def yK (gs:List (List Nat))(n:Nat):Nat->List (List Nat)×List Int×List Int
 | 0=>([List.range n],[-1],[-1])
 | x+1=>if gs.getD x []∈(yK gs n x).1 then yK gs n x else ((yK gs n x).1++[gs.getD x []],(yK gs n x).2.1++[0],(yK gs n x).2.2++[(x:Int)])
theorem qH {w:World}{p e:Nat}{z0 z1 z2 z3 z4 z5 z6 z7 z8:Value}(h:w.heap[p]?=some (.cells #[z0,z1,z2,z3,z4,z5,z6,z7,z8] e (0,0)))(x0 x1 x2 x3 x4 x5 x6 x7 x8:Value):(((((((((w.setCell ⟨p,0,none⟩ x0).setCell ⟨p,1,none⟩ x1).setCell ⟨p,2,none⟩ x2).setCell ⟨p,3,none⟩ x3).setCell ⟨p,4,none⟩ x4).setCell ⟨p,5,none⟩ x5).setCell ⟨p,6,none⟩ x6).setCell ⟨p,7,none⟩ x7).setCell ⟨p,8,none⟩ x8).heap[p]?=some (.cells #[x0,x1,x2,x3,x4,x5,x6,x7,x8] e (0,0))/\w.grownBy (((((((((w.setCell ⟨p,0,none⟩ x0).setCell ⟨p,1,none⟩ x1).setCell ⟨p,2,none⟩ x2).setCell ⟨p,3,none⟩ x3).setCell ⟨p,4,none⟩ x4).setCell ⟨p,5,none⟩ x5).setCell ⟨p,6,none⟩ x6).setCell ⟨p,7,none⟩ x7).setCell ⟨p,8,none⟩ x8) (some p):=by
 have s0:=heap_setCell_same w p 0 _ _ x0 h;have s1:=heap_setCell_same _ p 1 _ _ x1 s0;have s2:=heap_setCell_same _ p 2 _ _ x2 s1;have s3:=heap_setCell_same _ p 3 _ _ x3 s2;have s4:=heap_setCell_same _ p 4 _ _ x4 s3;have s5:=heap_setCell_same _ p 5 _ _ x5 s4;have s6:=heap_setCell_same _ p 6 _ _ x6 s5;have s7:=heap_setCell_same _ p 7 _ _ x7 s6;have s8:=heap_setCell_same _ p 8 _ _ x8 s7;refine⟨by rw[s8];simp,?_⟩;have t:=fun(W:World) (i:Nat) (u:Value)=>zF W ⟨p,i,none⟩ u;exact zH (zH (zH (zH (zH (zH (zH (zH (t _ 0 _) (t _ 1 _)) (t _ 2 _)) (t _ 3 _)) (t _ 4 _)) (t _ 5 _)) (t _ 6 _)) (t _ 7 _)) (t _ 8 _)
theorem OwnT.other {base n:Nat}{w w':World}{v:Value}{ts:List (List Nat)}{r e:Nat}{c:Array Value}{m:Nat×Nat}(h:OwnT base w v n ts)(hg:w.grownBy w' (some r))(hr:w.heap[r]?=some (.cells c e m))(h1:e≠22)(h2:e≠3):OwnT base w' v n ts:=by
 obtain⟨hs,h3,h4,h5⟩:=h;exact⟨hs,h3.kept hg (.inr (zS h3 hr (Ne.symm h1))),(h4.kept hg (fun k e=>.inr (by have e:=Oj e;subst e;exact⟨_,_,_,hr,h2⟩))).mono hg.size,h5⟩
inductive start5I (n b0 o0:Nat)(gs:List (List Nat))(hv:Value)(vg:Value)(w5:World)(a0:Act)(l:Array Bool)(a:Act)(w:World):Prop
 | mk (x30:Value) (x31:Value) (x6:Value) (o:Nat) (ha:a=zP a0 [(30,x30),(31,x31),(6,x6)]) (HR:∀j∈[0,1,2,3,4,5],l.getD j true=true) (H6:Hid (l.getD 6 true=true->∃sa sc,x30=.slice sa gs.length sc/\OwnT 0 w (.slice sa gs.length sc) gs.length gs)) (H7:Hid (l.getD 7 true=true->l.getD 6 true=true/\x31=.agg #[.int .i64 n,.bool true,x30,.slice none 0 0,.slice none 0 0,.slice none 0 0,.slice none 0 0,.slice none 0 0,.int .i64 0])) (H8:Hid (l.getD 8 true=true->x6=.pointer (some ⟨o,0,none⟩)/\w5.heap.size<=o)) (B1:Hid (l.getD 8 true=true->(l.getD 9 true=false->w.heap[o]?=some (.cells #[.int .i64 0,.bool false,.slice none 0 0,.slice none 0 0,.slice none 0 0,.slice none 0 0,.slice none 0 0,.slice none 0 0,.int .i64 0] 90 (0,0))))) (B2:Hid (l.getD 9 true=true->l.getD 6 true=true/\l.getD 8 true=true/\w.heap[o]?=some (.cells #[.int .i64 n,.bool true,x30,.slice none 0 0,.slice none 0 0,.slice none 0 0,.slice none 0 0,.slice none 0 0,.int .i64 0] 90 (0,0)))) (HG:(w5.grownBy w none))
theorem qMY {n b0 o0:Nat}{gs:List (List Nat)}{hv:Value}{vg:Value}{w5:World}{a0:Act}{l:Array Bool}{a:Act}{w:World}(hc:w5.cell? ⟨b0,o0,none⟩=some hv)(h:start5I n b0 o0 gs hv vg w5 a0 l a w):wF 9 (fun _=>True) (fun W=>W.cell? ⟨b0,o0,none⟩=some hv) l w:=by
 obtain⟨x30,x31,x6,o,ha,HR,H6,H7,H8,B1,B2,HG⟩:=h;exact⟨trivial,fun _=>zJ hc HG⟩
theorem lT {n b0 o0:Nat}{gs:List (List Nat)}{hv:Value}{vg:Value}{w5:World}{a0:Act}{l:Array Bool}{a:Act}{w:World}(h:start5I n b0 o0 gs hv vg w5 a0 l a w):∀j∈[0,1,2,3,4,5],l.getD j true=true:=by
 obtain⟨x30,x31,x6,o,ha,HR,H6,H7,H8,B1,B2,HG⟩:=h;exact HR
theorem qBL {n b0 o0:Nat}{gs:List (List Nat)}{hv:Value}{vg:Value}{w5:World}{v0 v1 v2 v3 v4 v5 v6 v7 v8 v9 j5 j6 j7 j8 j9 i0 i1 i2 i3 i4 i5 i6 i7 i8 i9 g0 g1 g2 g3 g4 g5 g6 g7 g8 g9 f9 e0 e1 e2 e3 e4 e5 e6 e7 e8 e9 d0 d1 d2 d3 d4 d5 d6 d7 d8 d9 c0 c1 c2 c3 c4 c5 c6 c7 c8 c9 b1 b2 b3 b4 b5 b6 b7 b8 b9 a1 a2 a3 a4 a5 a6 a7:Value}{dd:_}{a0:Act}(a9:a0=⟨#[v0,v1,v2,v3,v4,v5,v6,v7,v8,v9,j5,j6,j7,j8,j9,i0,i1,i2,i3,i4,i5,i6,i7,i8,vg,.pointer (some ⟨b0,o0,none⟩),hv,.int .i64 n,.bool true,vg,i9,g0,g1,g2,g3,g4,g5,g6,g7,g8,g9,f9,e0,e1,e2,e3,e4,e5,e6,e7,e8,e9,d0,d1,d2,d3,d4,d5,d6,d7,d8,d9,c0,c1,c2,c3,c4,c5,c6,c7,c8,c9,b1,b2,b3,b4,b5,b6,b7,b8,b9,a1,a2,a3,a4,a5,a6,a7],dd⟩)(j4:∀W:World,w5.grownBy W none->Calls Try.prog 104 #[vg] W (dL W gs))(a8:Array Oper)(Q7:Exit->Act->World->Prop):oC (iP Try.prog .any a8 Q7 (start5I n b0 o0 gs hv vg w5 a0)) 0 (qL Try.f82 5).toList:=by
 refine⟨?s0,?s1,?s2,?s3,?s4,?s5,?s6,?s7,?s8,?s9,trivial⟩
 case s0 =>
  exact fun l a w h h1=>absurd (lT h 0 (by simp)) (by rw[h1];simp)
 case s1 =>
  exact fun l a w h h1=>absurd (lT h 1 (by simp)) (by rw[h1];simp)
 case s2 =>
  exact fun l a w h h1=>absurd (lT h 2 (by simp)) (by rw[h1];simp)
 case s3 =>
  exact fun l a w h h1=>absurd (lT h 3 (by simp)) (by rw[h1];simp)
 case s4 =>
  exact fun l a w h h1=>absurd (lT h 4 (by simp)) (by rw[h1];simp)
 case s5 =>
  exact fun l a w h h1=>absurd (lT h 5 (by simp)) (by rw[h1];simp)
 case s6 =>
  intro l a w h h1 h0 K hK;obtain⟨x30,x31,x6,o,ha,HR,H6,H7,H8,B1,B2,HG⟩:=h;subst ha;rw[a9];simp only[zP,List.foldl_cons,List.foldl_nil,Act.put,sPa,sPb,sPc];go_simp
  go_at_call 104
  refine(j4 w HG).mono ?_;rintro e w6 ⟨sa,sc,rfl,h2,h4⟩;refine hK.out _ _ ?_;refine⟨(.slice sa gs.length sc),x31,x6,o,?fa6,fun j hj=>zD (HR j hj),Kh (fun _=>⟨sa,sc,rfl,h2.base (Nat.zero_le _)⟩),(hs7A H7 h1),(hs7P H8),Kh (fun h h9=>zB (B1.out (zE (by decide) h) (zI h9)) h4),(hs7A B2 h1),zC HG h4⟩
  case fa6=>rw[a9];simp only[zP,List.foldl_cons,List.foldl_nil,Act.put,sPa,sPb,sPc]
 case s7 =>
  intro l a w h h1 h0 K hK;obtain⟨x30,x31,x6,o,ha,HR,H6,H7,H8,B1,B2,HG⟩:=h;have DH6:=H6.out (zL (h0 ⟨6,.data⟩ (by simp) rfl));obtain⟨sa,sc,rfl,h2⟩:=DH6;subst ha;rw[a9];simp only[zP,List.foldl_cons,List.foldl_nil,Act.put,sPa,sPb,sPc];go_simp;refine hK.out _ _ ?_;refine⟨(.slice sa gs.length sc),(.agg #[.int .i64 n,.bool true,.slice sa gs.length sc,.slice none 0 0,.slice none 0 0,.slice none 0 0,.slice none 0 0,.slice none 0 0,.int .i64 0]),x6,o,?fa7,fun j hj=>zD (HR j hj),Kh (fun _=>⟨sa,sc,rfl,h2⟩),Kh (fun _=>⟨zD (zL (h0 ⟨6,.data⟩ (by simp) rfl)),rfl⟩),(hs7P H8),Kh (fun h h9=>B1.out (zE (by decide) h) (zI h9)),(hs7R B2),HG⟩
  case fa7=>rw[a9];simp only[zP,List.foldl_cons,List.foldl_nil,Act.put,sPa,sPb,sPc]
 case s8 =>
  intro l a w h h1 h0 K hK;obtain⟨x30,x31,x6,o,ha,HR,H6,H7,H8,B1,B2,HG⟩:=h;subst ha;rw[a9];simp only[zP,List.foldl_cons,List.foldl_nil,Act.put,sPa,sPb,sPc];go_simp;refine hK.out _ _ ?_;refine⟨x30,x31,(.pointer (some ⟨w.heap.size,0,none⟩)),w.heap.size,?fa8,fun j hj=>zD (HR j hj),Kh (fun h=>let ⟨sa,sc,e,ho⟩:=H6.out (zE (by decide) h);⟨sa,sc,e,ho.grow (Ga w (.cells #[.int .i64 0,.bool false,.slice none 0 0,.slice none 0 0,.slice none 0 0,.slice none 0 0,.slice none 0 0,.slice none 0 0,.int .i64 0] 90) none)⟩),(hs7Q H7),Kh (fun _=>⟨rfl,HG.size⟩),Kh (fun _ _=>heap_alloc_new w _),(hs7B B2 h1),zC HG (Ga w (.cells #[.int .i64 0,.bool false,.slice none 0 0,.slice none 0 0,.slice none 0 0,.slice none 0 0,.slice none 0 0,.slice none 0 0,.int .i64 0] 90) none)⟩
  case fa8=>rw[a9];simp only[zP,List.foldl_cons,List.foldl_nil,Act.put,sPa,sPb,sPc]
 intro l a w h h1 h0 K hK;obtain⟨x30,x31,x6,o,ha,HR,H6,H7,H8,B1,B2,HG⟩:=h;have DH8:=H8.out (zL (h0 ⟨8,.data⟩ (by simp) rfl));have DB1:=B1.out (zL (h0 ⟨8,.data⟩ (by simp) rfl));have DH7:=H7.out (zL (h0 ⟨7,.data⟩ (by simp) rfl));have DH6:=H6.out (zL (h0 ⟨6,.chain⟩ (by simp) rfl));obtain⟨rfl,ho⟩:=DH8;obtain⟨sa,sc,rfl,h2⟩:=DH6;obtain⟨h5,rfl⟩:=DH7;have h7:=zL (h0 ⟨8,.data⟩ (by simp) rfl);have hb:=DB1 h1;subst ha;rw[a9];simp only[zP,List.foldl_cons,List.foldl_nil,Act.put,sPa,sPb,sPc];obtain⟨k0,k1,k2,k3,k4,k5,k6,k7,k8⟩:=zW hb;have f0:=zA hb 0;have f1:=zA hb 1;have f2:=zA hb 2;have f3:=zA hb 3;have f4:=zA hb 4;have f5:=zA hb 5;have f6:=zA hb 6;have f7:=zA hb 7;have f8:=zA hb 8;go_simp;obtain⟨h6,h3⟩:=qH hb (.int .i64 n) (.bool true) (.slice sa gs.length sc) (.slice none 0 0) (.slice none 0 0) (.slice none 0 0) (.slice none 0 0) (.slice none 0 0) (.int .i64 0);refine hK.out _ _ ?_;refine⟨(.slice sa gs.length sc),(.agg #[.int .i64 n,.bool true,.slice sa gs.length sc,.slice none 0 0,.slice none 0 0,.slice none 0 0,.slice none 0 0,.slice none 0 0,.int .i64 0]),(.pointer (some ⟨o,0,none⟩)),o,?fa9,fun j hj=>zD (HR j hj),Kh (fun _=>⟨sa,sc,rfl,h2.other h3 hb (by decide) (by decide)⟩),Kh (fun _=>⟨zD h5,rfl⟩),Kh (fun _=>⟨rfl,ho⟩),Kh (fun _ h9=>yG h9),Kh (fun _=>⟨zD h5,zD h7,h6⟩),yM HG h3 (by show _<=o;omega)⟩
 case fa9=>rw[a9];simp only[zP,List.foldl_cons,List.foldl_nil,Act.put,sPa,sPb,sPc]
inductive start16I (n P o m u x:Nat)(f:List Nat)(pre las:List Int)(us hsE:List Value)(sE:Option Addr)(cE:Nat)(sP:Option Addr)(cP:Nat)(sL:Option Addr)(cL:Nat)(sU:Option Addr)(cU:Nat)(gv:Value)(w4:World)(FF:Nat->Prop)(a0:Act)(l:Array Bool)(a:Act)(w:World):Prop
 | mk (x68:Value) (x70:Value) (x71:Value) (x72:Value) (x76:Value) (x77:Value) (x81:Value) (x82:Value) (x83:Value) (x84:Value) (x85:Value) (vE:Value) (nE:Nat) (xE:List Value) (vP:Value) (nP:Nat) (xP:List Value) (vL:Value) (nL:Nat) (xL:List Value) (vF:Value) (nF:Nat) (xF:List Value) (ls:List (Nat×Obj)) (c3:Value) (c4:Value) (c5:Value) (ha:a=zP a0 [(68,x68),(70,x70),(71,x71),(72,x72),(76,x76),(77,x77),(81,x81),(82,x82),(83,x83),(84,x84),(85,x85)]) (HR:∀j∈[0,1,3,7,8,9,12,13,14],l.getD j true=true) (H2n:Hid (l.getD 2 true=false->vF=.slice none 0 0/\nF=0/\xF=[])) (H2:Hid (l.getD 2 true=true->(l.getD 4 true=false->∃g,x68=.slice (some ⟨g,0,none⟩) 0 0/\vF=.slice (some ⟨g,0,none⟩) 0 0/\nF=0/\xF=[]))) (H4:Hid (l.getD 4 true=true->l.getD 2 true=true/\∃sa sc,x70=.slice sa n sc/\vF=.slice sa n sc/\n=nF/\xF=nats f)) (H5:Hid (l.getD 5 true=true->l.getD 4 true=true/\∃g,x71=.slice (some ⟨g,0,none⟩) 1 1/\(g,Obj.cells #[vF] 22 (0,0))∈ls)) (H6n:Hid (l.getD 6 true=false->vE=.slice sE m cE/\m=nE/\hsE=xE)) (H6:Hid (l.getD 6 true=true->l.getD 4 true=true/\∃sa sc,vE=.slice sa (m+1) sc/\x72=.slice sa (m+1) sc/\nE=m+1/\xE=hsE++[vF])) (H10:Hid (l.getD 10 true=true->∃g,x76=.slice (some ⟨g,0,none⟩) 1 1/\(g,Obj.cells #[.int .i64 0] 3 (0,0))∈ls)) (H11n:Hid (l.getD 11 true=false->vP=.slice sP m cP/\m=nP/\xP=ints pre)) (H11:Hid (l.getD 11 true=true->l.getD 6 true=true/\∃sa sc,vP=.slice sa (m+1) sc/\x77=.slice sa (m+1) sc/\nP=m+1/\xP=ints pre++[.int .i64 0])) (H15:Hid (l.getD 15 true=true->∃g,x81=.slice (some ⟨g,0,none⟩) 1 1/\(g,Obj.cells #[.int .i64 x] 3 (0,0))∈ls)) (H16n:Hid (l.getD 16 true=false->vL=.slice sL m cL/\m=nL/\xL=ints las)) (H16:Hid (l.getD 16 true=true->l.getD 11 true=true/\∃sa sc,vL=.slice sa (m+1) sc/\x82=.slice sa (m+1) sc/\nL=m+1/\xL=ints las++[.int .i64 x])) (H17:Hid (l.getD 17 true=true->x83=.pointer (some ⟨o,3,none⟩))) (H19:Hid (l.getD 19 true=true->x84=.pointer (some ⟨o,4,none⟩))) (H21:Hid (l.getD 21 true=true->x85=.pointer (some ⟨o,5,none⟩))) (B3n:Hid (l.getD 18 true=false->c3=.slice sE m cE)) (B3:Hid (l.getD 18 true=true->l.getD 6 true=true/\l.getD 16 true=true/\c3=vE)) (B4n:Hid (l.getD 20 true=false->c4=.slice sP m cP)) (B4:Hid (l.getD 20 true=true->l.getD 11 true=true/\l.getD 18 true=true/\c4=vP)) (B5n:Hid (l.getD 22 true=false->c5=.slice sL m cL)) (B5:Hid (l.getD 22 true=true->l.getD 16 true=true/\l.getD 20 true=true/\c5=vL)) (HB:(w.heap[o]?=some (.cells #[.int .i64 n,.bool true,gv,c3,c4,c5,.slice none 0 0,.slice sU u cU,.int .i64 0] 90 (0,0)))) (HM:(Many w4 FF w [⟨P,22,vE,nE,xE,1⟩,⟨P,3,vP,nP,xP,1⟩,⟨P,3,vL,nL,xL,1⟩,⟨P,135,.slice sU u cU,u,us,2⟩,⟨P,3,vF,nF,xF,1⟩] ls []))
theorem qJB {n P o m u x:Nat}{f:List Nat}{pre a9:List Int}{us a8:List Value}{sE:Option Addr}{cE:Nat}{sP:Option Addr}{cP:Nat}{sL:Option Addr}{cL:Nat}{sU:Option Addr}{cU:Nat}{gv:Value}{w4:World}{FF:Nat->Prop}{a0:Act}{l:Array Bool}{a:Act}{w:World}(h:start16I n P o m u x f pre a9 us a8 sE cE sP cP sL cL sU cU gv w4 FF a0 l a w):wF 18 (fun _=>True) (fun W=>W.cell? ⟨o,3,none⟩=some (.slice sE m cE)/\W.cell? ⟨o,4,none⟩=some (.slice sP m cP)/\W.cell? ⟨o,5,none⟩=some (.slice sL m cL)) l w:=by
 obtain⟨x68,x70,x71,x72,x76,x77,x81,x82,x83,x84,x85,vE,nE,xE,vP,nP,xP,vL,nL,xL,vF,nF,xF,ls,c3,c4,c5,ha,HR,h5,H2,H4,H5,h4,H6,H3,h3,H1,H0,h2,h9,h8,h7,h6,B3n,B3,B4n,B4,B5n,B5,HB,HM⟩:=h;obtain⟨k0,k1,k2,k3,k4,k5,k6,k7,k8⟩:=zW HB;refine⟨trivial,fun h18=>?_⟩
 have h0:l.getD 20 true=false:=by
  rcases h0:l.getD 20 true with _|_
  ·rfl
  have:=(B4.out h0).2.1;rw[h18]at this;cases this
 have h1:l.getD 22 true=false:=by
  rcases h1:l.getD 22 true with _|_
  ·rfl
  have:=(B5.out h1).2.1;rw[h0]at this;cases this
 rw[B3n.out h18]at k3;rw[B4n.out h0]at k4;rw[B5n.out h1]at k5;exact⟨k3,k4,k5⟩
theorem rI {n P o m u x:Nat}{f:List Nat}{pre a9:List Int}{us a8:List Value}{sE:Option Addr}{cE:Nat}{sP:Option Addr}{cP:Nat}{sL:Option Addr}{cL:Nat}{sU:Option Addr}{cU:Nat}{gv:Value}{w4:World}{FF:Nat->Prop}{a0:Act}{l:Array Bool}{a:Act}{w:World}(h:start16I n P o m u x f pre a9 us a8 sE cE sP cP sL cL sU cU gv w4 FF a0 l a w):∀j∈[0,1,3,7,8,9,12,13,14],l.getD j true=true:=by
 obtain⟨x68,x70,x71,x72,x76,x77,x81,x82,x83,x84,x85,vE,nE,xE,vP,nP,xP,vL,nL,xL,vF,nF,xF,ls,c3,c4,c5,ha,HR,h3,H2,H4,H5,h2,H6,H0,h1,h9,h8,h0,h7,h6,h5,h4,B3n,B3,B4n,B4,B5n,B5,HB,HM⟩:=h;exact HR
theorem aK {fa:Option Addr}{fc:Nat}{n P o m u x:Nat}{f:List Nat}{pre a5:List Int}{us a4:List Value}{sE:Option Addr}{cE:Nat}{sP:Option Addr}{cP:Nat}{sL:Option Addr}{cL:Nat}{sU:Option Addr}{cU:Nat}{gv:Value}{w4:World}{FF:Nat->Prop}{v0 v1 v2 v3 v4 v5 v7 v8 v9 j7 j8 j9 i0 i1 i2 i3 i4 i5 i6 i7 i8 i9 g0 g1 g3 g4 g6 g7 g8 g9 f0 f1 f2 f3 f4 f5 f6 f7 f8 f9 e0 e1 e2 e3 e4 e5 e6 e7 e8 e9 d0 d1 d2 d3 d4 d5 d6 d7 d8 d9 c0 c1 c2 c6 c7 c8 c9 b0 b1 b2 b3 b4 b5 b6 b7 b8 b9 a1:Value}{dd:_}{a0:Act}(a9:a0=⟨#[v0,v1,v2,v3,v4,v5,.pointer (some ⟨o,0,none⟩),v7,v8,v9,j7,j8,j9,i0,i1,i2,i3,i4,i5,i6,i7,i8,i9,g0,g1,g3,g4,g6,g7,g8,g9,f0,f1,f2,f3,f4,f5,f6,f7,f8,f9,e0,e1,e2,e3,e4,e5,e6,e7,e8,e9,d0,d1,d2,d3,d4,d5,d6,d7,d8,d9,c0,c1,c2,c6,c7,.pointer (some ⟨o,3,none⟩),.slice sE m cE,c8,.slice fa n fc,c9,b0,b1,.pointer (some ⟨o,4,none⟩),.slice sP m cP,.int .i64 0,b2,b3,.pointer (some ⟨o,5,none⟩),.slice sL m cL,.int .i64 x,b4,b5,b6,b7,b8,b9,a1],dd⟩)(j6:n<=32)(j5:m<=7)(a8:P<=w4.heap.size)(a2:FF o)(a3:o<w4.heap.size)(a7:∀W:World,GrownBut w4 W FF->tB W 1 (.slice fa n fc) n (nats f))(a6:Array Oper)(Q7:Exit->Act->World->Prop):oC (iP Try.prog .any a6 Q7 (start16I n P o m u x f pre a5 us a4 sE cE sP cP sL cL sU cU gv w4 FF a0)) 0 (qL Try.f82 16).toList:=by
 refine⟨?s0,?s1,?s2,?s3,?s4,?s5,?s6,?s7,?s8,?s9,?s10,?s11,?s12,?s13,?s14,?s15,?s16,?s17,?s18,?s19,?s20,?s21,?s22,trivial⟩
 case s0 =>
  exact fun l a w h h6=>absurd (rI h 0 (by simp)) (by rw[h6];simp)
 case s1 =>
  exact fun l a w h h6=>absurd (rI h 1 (by simp)) (by rw[h6];simp)
 case s2 =>
  intro l a w h h6 h0 K hK;obtain⟨x68,x70,x71,x72,x76,x77,x81,x82,x83,x84,x85,vE,nE,xE,vP,nP,xP,vL,nL,xL,vF,nF,xF,ls,c3,c4,c5,ha,HR,H9,H2,H4,H5,h7,H6,H8,h5,H7,H3,h3,H1,H0,h9,h8,B3n,B3,B4n,B4,B5n,B5,HB,HM⟩:=h;obtain⟨rfl,rfl,rfl⟩:=H9.out h6;subst ha;rw[a9];simp only[zP,List.foldl_cons,List.foldl_nil,Act.put,sPa,sPb,sPc];go_simp;have j1:=HM.lit0 (j:=4) rfl a8;refine hK.out _ _ ?_;refine⟨(.slice (some ⟨w.heap.size,0,none⟩) 0 0),x70,x71,x72,x76,x77,x81,x82,x83,x84,x85,vE,nE,xE,vP,nP,xP,vL,nL,xL,(.slice (some ⟨w.heap.size,0,none⟩) 0 0),0,[],ls,c3,c4,c5,?fa2,fun j hj=>zD (HR j hj),Kh (fun h=>yG h),Kh (fun _ _=>⟨w.heap.size,rfl,rfl,rfl,rfl⟩),(hs7A H4 h6),Kh (fun h=>absurd (H4.out (H5.out (zE (by decide) h)).1).1 (by rw[h6];simp)),(hs7N h7),Kh (fun h=>absurd (H4.out (H6.out (zE (by decide) h)).1).1 (by rw[h6];simp)),(hs7P H8),(hs7N h5),(hs7Q H7),(hs7P H3),(hs7N h3),(hs7Q H1),(hs7P H0),(hs7P h9),(hs7P h8),(hs7N B3n),(hs7R B3),(hs7N B4n),(hs7R B4),(hs7N B5n),(hs7R B5),zB HB (Ga w (.cells #[] 3) none),j1⟩
  case fa2=>rw[a9];simp only[zP,List.foldl_cons,List.foldl_nil,Act.put,sPa,sPb,sPc]
 case s3 =>
  exact fun l a w h h6=>absurd (rI h 3 (by simp)) (by rw[h6];simp)
 case s4 =>
  intro l a w h h6 h0 K hK;obtain⟨x68,x70,x71,x72,x76,x77,x81,x82,x83,x84,x85,vE,nE,xE,vP,nP,xP,vL,nL,xL,vF,nF,xF,ls,c3,c4,c5,ha,HR,H9,H2,H4,H5,h7,H6,H8,h5,H7,H3,h3,H1,H0,h9,h8,B3n,B3,B4n,B4,B5n,B5,HB,HM⟩:=h;have DH2:=H2.out (zL (h0 ⟨2,.data⟩ (by simp) rfl));obtain⟨g2,rfl,rfl,rfl,rfl⟩:=DH2 h6;have j3:=zL (h0 ⟨2,.data⟩ (by simp) rfl);subst ha;rw[a9];simp only[zP,List.foldl_cons,List.foldl_nil,Act.put,sPa,sPb,sPc];have l2:tB w 1 (.slice fa n fc) n (nats f):=a7 w HM.but;refine rT (by simp[Region.wanted]) (.tmp 68) (.tmp 69) 22 rfl yJ.toN 4 _ rfl HM rfl rfl rfl rfl l2 ?g14 (Nat.zero_add n) ?g24 ?g34 a8 ?_
  case g14=>intro u hu;obtain⟨y,_,rfl⟩:=List.mem_map.1 hu;rfl
  case g24=>unfold maxLen;omega
  case g34=>omega
  intro sa sc w6 j1 j0;rw[List.nil_append]at j1;refine hK.out _ _ ?_;refine⟨(.slice (some ⟨g2,0,none⟩) 0 0),(.slice sa n sc),x71,x72,x76,x77,x81,x82,x83,x84,x85,vE,nE,xE,vP,nP,xP,vL,nL,xL,(.slice sa n sc),n,(nats f),ls,c3,c4,c5,?fa4,fun j hj=>zD (HR j hj),Kh (fun h=>absurd (zD j3) (by rw[h];simp)),Kh (fun _ h4=>yG h4),Kh (fun _=>⟨zD j3,sa,sc,rfl,rfl,rfl,rfl⟩),(hs7A H5 h6),(hs7N h7),(hs7A H6 h6),(hs7P H8),(hs7N h5),(hs7Q H7),(hs7P H3),(hs7N h3),(hs7Q H1),(hs7P H0),(hs7P h9),(hs7P h8),(hs7N B3n),(hs7R B3),(hs7N B4n),(hs7R B4),(hs7N B5n),(hs7R B5),zB HB j0 (fun e=>HM.not_type HB (by simp) 4 _ rfl e),j1⟩
  case fa4=>rw[a9];simp only[zP,List.foldl_cons,List.foldl_nil,Act.put,sPa,sPb,sPc]
 case s5 =>
  intro l a w h h6 h0 K hK;obtain⟨x68,x70,x71,x72,x76,x77,x81,x82,x83,x84,x85,vE,nE,xE,vP,nP,xP,vL,nL,xL,vF,nF,xF,ls,c3,c4,c5,ha,HR,H9,H2,H4,H5,h7,H6,H8,h5,H7,H3,h3,H1,H0,h9,h8,B3n,B3,B4n,B4,B5n,B5,HB,HM⟩:=h;have DH4:=H4.out (zL (h0 ⟨4,.data⟩ (by simp) rfl));obtain⟨j3,sa,sc,rfl,rfl,rfl,rfl⟩:=DH4;have j4:=zL (h0 ⟨4,.data⟩ (by simp) rfl);subst ha;rw[a9];simp only[zP,List.foldl_cons,List.foldl_nil,Act.put,sPa,sPb,sPc];go_simp;refine hK.out _ _ ?_;refine⟨x68,(Value.slice sa n sc),(.slice (some ⟨w.heap.size,0,none⟩) 1 1),x72,x76,x77,x81,x82,x83,x84,x85,vE,nE,xE,vP,nP,xP,vL,nL,xL,(Value.slice sa n sc),n,(nats f),((w.heap.size,Obj.cells #[Value.slice sa n sc] 22 (0,0))::ls),c3,c4,c5,?fa5,fun j hj=>zD (HR j hj),Kh (fun h=>absurd (zD j3) (by rw[h];simp)),Kh (fun h h4=>absurd (zD j4) (by rw[h4];simp)),Kh (fun _=>⟨zD j3,sa,sc,rfl,rfl,rfl,rfl⟩),Kh (fun _=>⟨zD j4,w.heap.size,rfl,List.Mem.head _⟩),(hs7N h7),(hs7Q H6),Kh (fun h=>let ⟨g,h1,h2⟩:=H8.out (zE (by decide) h);⟨g,h1,List.Mem.tail _ h2⟩),(hs7N h5),(hs7Q H7),Kh (fun h=>let ⟨g,h1,h2⟩:=H3.out (zE (by decide) h);⟨g,h1,List.Mem.tail _ h2⟩),(hs7N h3),(hs7Q H1),(hs7P H0),(hs7P h9),(hs7P h8),(hs7N B3n),(hs7R B3),(hs7N B4n),(hs7R B4),(hs7N B5n),(hs7R B5),zB HB (Ga w (.cells #[Value.slice sa n sc] 22) none),HM.alloc (.cells #[Value.slice sa n sc] 22)⟩
  case fa5=>rw[a9];simp only[zP,List.foldl_cons,List.foldl_nil,Act.put,sPa,sPb,sPc]
 case s6 =>
  intro l a w h h6 h0 K hK;obtain⟨x68,x70,x71,x72,x76,x77,x81,x82,x83,x84,x85,vE,nE,xE,vP,nP,xP,vL,nL,xL,vF,nF,xF,ls,c3,c4,c5,ha,HR,H9,H2,H4,H5,h7,H6,H8,h5,H7,H3,h3,H1,H0,h9,h8,B3n,B3,B4n,B4,B5n,B5,HB,HM⟩:=h;have DH5:=H5.out (zL (h0 ⟨5,.data⟩ (by simp) rfl));obtain⟨j4,g5,rfl,j2⟩:=DH5;obtain⟨j3,s4,c4',e70,rfl,l5,l4⟩:=H4.out j4;obtain⟨rfl,rfl,rfl⟩:=h7.out h6;subst ha;rw[a9];simp only[zP,List.foldl_cons,List.foldl_nil,Act.put,sPa,sPb,sPc];refine sM (by simp[Region.wanted]) (.tmp 67) (.tmp 71) 35 rfl wP 0 g5 1 rfl HM rfl rfl rfl rfl ?g16 ?g26 ?g36 j2 rfl ?_
  case g16=>show m+1<=maxLen;unfold maxLen;omega
  case g26=>show (m+1)*24<=140737488355328;omega
  case g36=>exact a8
  intro sa sc w6 j1 j0;refine hK.out _ _ ?_;refine⟨x68,x70,(.slice (some ⟨g5,0,none⟩) 1 1),(.slice sa (m+1) sc),x76,x77,x81,x82,x83,x84,x85,(.slice sa (m+1) sc),(m+1),(a4++[Value.slice s4 n c4']),vP,nP,xP,vL,nL,xL,(Value.slice s4 n c4'),nF,xF,ls,c3,c4,c5,?fa6,fun j hj=>zD (HR j hj),Kh (fun h=>absurd (zD j3) (by rw[h];simp)),Kh (fun h h4=>absurd (zD j4) (by rw[h4];simp)),Kh (fun _=>⟨zD j3,s4,c4',e70,rfl,l5,l4⟩),Kh (fun _=>⟨zD j4,g5,rfl,j2⟩),Kh (fun h=>yG h),Kh (fun _=>⟨zD j4,sa,sc,rfl,rfl,rfl,rfl⟩),(hs7P H8),(hs7N h5),(hs7A H7 h6),(hs7P H3),(hs7N h3),(hs7Q H1),(hs7P H0),(hs7P h9),(hs7P h8),(hs7N B3n),(hs7A B3 h6),(hs7N B4n),(hs7R B4),(hs7N B5n),(hs7R B5),zB HB j0 (fun e=>HM.not_type HB (by simp) 0 _ rfl e),j1⟩
  case fa6=>rw[a9];simp only[zP,List.foldl_cons,List.foldl_nil,Act.put,sPa,sPb,sPc]
 case s7 =>
  exact fun l a w h h6=>absurd (rI h 7 (by simp)) (by rw[h6];simp)
 case s8 =>
  exact fun l a w h h6=>absurd (rI h 8 (by simp)) (by rw[h6];simp)
 case s9 =>
  exact fun l a w h h6=>absurd (rI h 9 (by simp)) (by rw[h6];simp)
 case s10 =>
  intro l a w h h6 h0 K hK;obtain⟨x68,x70,x71,x72,x76,x77,x81,x82,x83,x84,x85,vE,nE,xE,vP,nP,xP,vL,nL,xL,vF,nF,xF,ls,c3,c4,c5,ha,HR,H9,H2,H4,H5,h7,H6,H8,h5,H7,H3,h3,H1,H0,h9,h8,B3n,B3,B4n,B4,B5n,B5,HB,HM⟩:=h;subst ha;rw[a9];simp only[zP,List.foldl_cons,List.foldl_nil,Act.put,sPa,sPb,sPc];go_simp;refine hK.out _ _ ?_;refine⟨x68,x70,x71,x72,(.slice (some ⟨w.heap.size,0,none⟩) 1 1),x77,x81,x82,x83,x84,x85,vE,nE,xE,vP,nP,xP,vL,nL,xL,vF,nF,xF,((w.heap.size,Obj.cells #[Value.int .i64 0] 3 (0,0))::ls),c3,c4,c5,?fa10,fun j hj=>zD (HR j hj),(hs7N H9),Kh (fun h h4=>H2.out (zE (by decide) h) (zI h4)),(hs7Q H4),Kh (fun h=>⟨zD (H5.out (zE (by decide) h)).1,let ⟨g,h1,h2⟩:=(H5.out (zE (by decide) h)).2;⟨g,h1,List.Mem.tail _ h2⟩⟩),(hs7N h7),(hs7Q H6),Kh (fun _=>⟨w.heap.size,rfl,List.Mem.head _⟩),(hs7N h5),(hs7Q H7),Kh (fun h=>let ⟨g,h1,h2⟩:=H3.out (zE (by decide) h);⟨g,h1,List.Mem.tail _ h2⟩),(hs7N h3),(hs7Q H1),(hs7P H0),(hs7P h9),(hs7P h8),(hs7N B3n),(hs7R B3),(hs7N B4n),(hs7R B4),(hs7N B5n),(hs7R B5),zB HB (Ga w (.cells #[Value.int .i64 0] 3) none),HM.alloc (.cells #[Value.int .i64 0] 3)⟩
  case fa10=>rw[a9];simp only[zP,List.foldl_cons,List.foldl_nil,Act.put,sPa,sPb,sPc]
 case s11 =>
  intro l a w h h6 h0 K hK;obtain⟨x68,x70,x71,x72,x76,x77,x81,x82,x83,x84,x85,vE,nE,xE,vP,nP,xP,vL,nL,xL,vF,nF,xF,ls,c3,c4,c5,ha,HR,H9,H2,H4,H5,h7,H6,H8,h5,H7,H3,h3,H1,H0,h9,h8,B3n,B3,B4n,B4,B5n,B5,HB,HM⟩:=h;have DH10:=H8.out (zL (h0 ⟨10,.data⟩ (by simp) rfl));obtain⟨g5,rfl,j2⟩:=DH10;obtain⟨rfl,rfl,rfl⟩:=h5.out h6;have l3:=zL (h0 ⟨6,.chain⟩ (by simp) rfl);subst ha;rw[a9];simp only[zP,List.foldl_cons,List.foldl_nil,Act.put,sPa,sPb,sPc];refine sM (by simp[Region.wanted]) (.tmp 74) (.tmp 76) 22 rfl yJ 1 g5 1 rfl HM rfl rfl rfl rfl ?g111 ?g211 ?g311 j2 rfl ?_
  case g111=>show m+1<=maxLen;unfold maxLen;omega
  case g211=>show (m+1)*8<=140737488355328;omega
  case g311=>exact a8
  intro sa sc w6 j1 j0;refine hK.out _ _ ?_;refine⟨x68,x70,x71,x72,(.slice (some ⟨g5,0,none⟩) 1 1),(.slice sa (m+1) sc),x81,x82,x83,x84,x85,vE,nE,xE,(.slice sa (m+1) sc),(m+1),((ints pre)++[Value.int .i64 0]),vL,nL,xL,vF,nF,xF,ls,c3,c4,c5,?fa11,fun j hj=>zD (HR j hj),(hs7N H9),Kh (fun h h4=>H2.out (zE (by decide) h) (zI h4)),(hs7Q H4),(hs7Q H5),(hs7N h7),(hs7Q H6),Kh (fun _=>⟨g5,rfl,j2⟩),Kh (fun h=>yG h),Kh (fun _=>⟨zD l3,sa,sc,rfl,rfl,rfl,rfl⟩),(hs7P H3),(hs7N h3),(hs7A H1 h6),(hs7P H0),(hs7P h9),(hs7P h8),(hs7N B3n),(hs7R B3),(hs7N B4n),(hs7A B4 h6),(hs7N B5n),(hs7R B5),zB HB j0 (fun e=>HM.not_type HB (by simp) 1 _ rfl e),j1⟩
  case fa11=>rw[a9];simp only[zP,List.foldl_cons,List.foldl_nil,Act.put,sPa,sPb,sPc]
 case s12 =>
  exact fun l a w h h6=>absurd (rI h 12 (by simp)) (by rw[h6];simp)
 case s13 =>
  exact fun l a w h h6=>absurd (rI h 13 (by simp)) (by rw[h6];simp)
 case s14 =>
  exact fun l a w h h6=>absurd (rI h 14 (by simp)) (by rw[h6];simp)
 case s15 =>
  intro l a w h h6 h0 K hK;obtain⟨x68,x70,x71,x72,x76,x77,x81,x82,x83,x84,x85,vE,nE,xE,vP,nP,xP,vL,nL,xL,vF,nF,xF,ls,c3,c4,c5,ha,HR,H9,H2,H4,H5,h7,H6,H8,h5,H7,H3,h3,H1,H0,h9,h8,B3n,B3,B4n,B4,B5n,B5,HB,HM⟩:=h;subst ha;rw[a9];simp only[zP,List.foldl_cons,List.foldl_nil,Act.put,sPa,sPb,sPc];go_simp;refine hK.out _ _ ?_;refine⟨x68,x70,x71,x72,x76,x77,(.slice (some ⟨w.heap.size,0,none⟩) 1 1),x82,x83,x84,x85,vE,nE,xE,vP,nP,xP,vL,nL,xL,vF,nF,xF,((w.heap.size,Obj.cells #[Value.int .i64 (x:Int)] 3 (0,0))::ls),c3,c4,c5,?fa15,fun j hj=>zD (HR j hj),(hs7N H9),Kh (fun h h4=>H2.out (zE (by decide) h) (zI h4)),(hs7Q H4),Kh (fun h=>⟨zD (H5.out (zE (by decide) h)).1,let ⟨g,h1,h2⟩:=(H5.out (zE (by decide) h)).2;⟨g,h1,List.Mem.tail _ h2⟩⟩),(hs7N h7),(hs7Q H6),Kh (fun h=>let ⟨g,h1,h2⟩:=H8.out (zE (by decide) h);⟨g,h1,List.Mem.tail _ h2⟩),(hs7N h5),(hs7Q H7),Kh (fun _=>⟨w.heap.size,rfl,List.Mem.head _⟩),(hs7N h3),(hs7Q H1),(hs7P H0),(hs7P h9),(hs7P h8),(hs7N B3n),(hs7R B3),(hs7N B4n),(hs7R B4),(hs7N B5n),(hs7R B5),zB HB (Ga w (.cells #[Value.int .i64 (x:Int)] 3) none),HM.alloc (.cells #[Value.int .i64 (x:Int)] 3)⟩
  case fa15=>rw[a9];simp only[zP,List.foldl_cons,List.foldl_nil,Act.put,sPa,sPb,sPc]
 case s16 =>
  intro l a w h h6 h0 K hK;obtain⟨x68,x70,x71,x72,x76,x77,x81,x82,x83,x84,x85,vE,nE,xE,vP,nP,xP,vL,nL,xL,vF,nF,xF,ls,c3,c4,c5,ha,HR,H9,H2,H4,H5,h7,H6,H8,h5,H7,H3,h3,H1,H0,h9,h8,B3n,B3,B4n,B4,B5n,B5,HB,HM⟩:=h;have DH15:=H3.out (zL (h0 ⟨15,.data⟩ (by simp) rfl));obtain⟨g5,rfl,j2⟩:=DH15;obtain⟨rfl,rfl,rfl⟩:=h3.out h6;have l3:=zL (h0 ⟨11,.chain⟩ (by simp) rfl);subst ha;rw[a9];simp only[zP,List.foldl_cons,List.foldl_nil,Act.put,sPa,sPb,sPc];refine sM (by simp[Region.wanted]) (.tmp 79) (.tmp 81) 22 rfl yJ 2 g5 1 rfl HM rfl rfl rfl rfl ?g116 ?g216 ?g316 j2 rfl ?_
  case g116=>show m+1<=maxLen;unfold maxLen;omega
  case g216=>show (m+1)*8<=140737488355328;omega
  case g316=>exact a8
  intro sa sc w6 j1 j0;refine hK.out _ _ ?_;refine⟨x68,x70,x71,x72,x76,x77,(.slice (some ⟨g5,0,none⟩) 1 1),(.slice sa (m+1) sc),x83,x84,x85,vE,nE,xE,vP,nP,xP,(.slice sa (m+1) sc),(m+1),((ints a5)++[Value.int .i64 (x:Int)]),vF,nF,xF,ls,c3,c4,c5,?fa16,fun j hj=>zD (HR j hj),(hs7N H9),Kh (fun h h4=>H2.out (zE (by decide) h) (zI h4)),(hs7Q H4),(hs7Q H5),(hs7N h7),(hs7Q H6),(hs7P H8),(hs7N h5),(hs7Q H7),Kh (fun _=>⟨g5,rfl,j2⟩),Kh (fun h=>yG h),Kh (fun _=>⟨zD l3,sa,sc,rfl,rfl,rfl,rfl⟩),(hs7P H0),(hs7P h9),(hs7P h8),(hs7N B3n),(hs7B B3 h6),(hs7N B4n),(hs7R B4),(hs7N B5n),(hs7A B5 h6),zB HB j0 (fun e=>HM.not_type HB (by simp) 2 _ rfl e),j1⟩
  case fa16=>rw[a9];simp only[zP,List.foldl_cons,List.foldl_nil,Act.put,sPa,sPb,sPc]
 case s17 =>
  intro l a w h h6 h0 K hK;obtain⟨x68,x70,x71,x72,x76,x77,x81,x82,x83,x84,x85,vE,nE,xE,vP,nP,xP,vL,nL,xL,vF,nF,xF,ls,c3,c4,c5,ha,HR,H9,H2,H4,H5,h7,H6,H8,h5,H7,H3,h3,H1,H0,h9,h8,B3n,B3,B4n,B4,B5n,B5,HB,HM⟩:=h;subst ha;rw[a9];simp only[zP,List.foldl_cons,List.foldl_nil,Act.put,sPa,sPb,sPc];go_simp;refine hK.out _ _ ?_;refine⟨x68,x70,x71,x72,x76,x77,x81,x82,(.pointer (some ⟨o,3,none⟩)),x84,x85,vE,nE,xE,vP,nP,xP,vL,nL,xL,vF,nF,xF,ls,c3,c4,c5,?fa17,fun j hj=>zD (HR j hj),(hs7N H9),Kh (fun h h4=>H2.out (zE (by decide) h) (zI h4)),(hs7Q H4),(hs7Q H5),(hs7N h7),(hs7Q H6),(hs7P H8),(hs7N h5),(hs7Q H7),(hs7P H3),(hs7N h3),(hs7Q H1),Kh (fun _=>rfl),(hs7P h9),(hs7P h8),(hs7N B3n),(hs7R B3),(hs7N B4n),(hs7R B4),(hs7N B5n),(hs7R B5),HB,HM⟩
  case fa17=>rw[a9];simp only[zP,List.foldl_cons,List.foldl_nil,Act.put,sPa,sPb,sPc]
 case s18 =>
  intro l a w h h6 h0 K hK;obtain⟨x68,x70,x71,x72,x76,x77,x81,x82,x83,x84,x85,vE,nE,xE,vP,nP,xP,vL,nL,xL,vF,nF,xF,ls,c3,c4,c5,ha,HR,H9,H2,H4,H5,h7,H6,H8,h5,H7,H3,h3,H1,H0,h9,h8,B3n,B3,B4n,B4,B5n,B5,HB,HM⟩:=h;have DH17:=H0.out (zL (h0 ⟨17,.data⟩ (by simp) rfl));have DH6:=H6.out (zL (h0 ⟨6,.data⟩ (by simp) rfl));subst DH17;obtain⟨l0,sa,sc,rfl,rfl,rfl,rfl⟩:=DH6;have l1:=zL (h0 ⟨6,.data⟩ (by simp) rfl);subst ha;rw[a9];simp only[zP,List.foldl_cons,List.foldl_nil,Act.put,sPa,sPb,sPc];obtain⟨k0,k1,k2,k3,k4,k5,k6,k7,k8⟩:=zW HB;have kf:=zA HB 3;go_simp;have j0:=zF w ⟨o,3,none⟩ (.slice sa (m+1) sc);have k9:=heap_setCell_same w o 3 _ _ (.slice sa (m+1) sc) HB;refine hK.out _ _ ?_;refine⟨x68,x70,x71,(.slice sa (m+1) sc),x76,x77,x81,x82,(.pointer (some ⟨o,3,none⟩)),x84,x85,(.slice sa (m+1) sc),(m+1),(a4++[vF]),vP,nP,xP,vL,nL,xL,vF,nF,xF,ls,(.slice sa (m+1) sc),c4,c5,?fa18,fun j hj=>zD (HR j hj),(hs7N H9),Kh (fun h h4=>H2.out (zE (by decide) h) (zI h4)),(hs7Q H4),(hs7Q H5),Kh (fun h=>absurd (zD l1) (by rw[h];simp)),Kh (fun _=>⟨zD l0,sa,sc,rfl,rfl,rfl,rfl⟩),(hs7P H8),(hs7N h5),(hs7Q H7),(hs7P H3),(hs7N h3),(hs7Q H1),Kh (fun _=>rfl),(hs7P h9),(hs7P h8),Kh (fun h=>yG h),Kh (fun _=>⟨zD (zL (h0 ⟨6,.data⟩ (by simp) rfl)),zD (zL (h0 ⟨16,.chain⟩ (by simp) rfl)),rfl⟩),(hs7N B4n),(hs7B B4 h6),(hs7N B5n),(hs7R B5),(by simpa using k9),HM.far j0 a2 a3 (HM.not_type HB (by simp))⟩
  case fa18=>rw[a9];simp only[zP,List.foldl_cons,List.foldl_nil,Act.put,sPa,sPb,sPc]
 case s19 =>
  intro l a w h h6 h0 K hK;obtain⟨x68,x70,x71,x72,x76,x77,x81,x82,x83,x84,x85,vE,nE,xE,vP,nP,xP,vL,nL,xL,vF,nF,xF,ls,c3,c4,c5,ha,HR,H9,H2,H4,H5,h7,H6,H8,h5,H7,H3,h3,H1,H0,h9,h8,B3n,B3,B4n,B4,B5n,B5,HB,HM⟩:=h;subst ha;rw[a9];simp only[zP,List.foldl_cons,List.foldl_nil,Act.put,sPa,sPb,sPc];go_simp;refine hK.out _ _ ?_;refine⟨x68,x70,x71,x72,x76,x77,x81,x82,x83,(.pointer (some ⟨o,4,none⟩)),x85,vE,nE,xE,vP,nP,xP,vL,nL,xL,vF,nF,xF,ls,c3,c4,c5,?fa19,fun j hj=>zD (HR j hj),(hs7N H9),Kh (fun h h4=>H2.out (zE (by decide) h) (zI h4)),(hs7Q H4),(hs7Q H5),(hs7N h7),(hs7Q H6),(hs7P H8),(hs7N h5),(hs7Q H7),(hs7P H3),(hs7N h3),(hs7Q H1),(hs7P H0),Kh (fun _=>rfl),(hs7P h8),(hs7N B3n),(hs7R B3),(hs7N B4n),(hs7R B4),(hs7N B5n),(hs7R B5),HB,HM⟩
  case fa19=>rw[a9];simp only[zP,List.foldl_cons,List.foldl_nil,Act.put,sPa,sPb,sPc]
 case s20 =>
  intro l a w h h6 h0 K hK;obtain⟨x68,x70,x71,x72,x76,x77,x81,x82,x83,x84,x85,vE,nE,xE,vP,nP,xP,vL,nL,xL,vF,nF,xF,ls,c3,c4,c5,ha,HR,H9,H2,H4,H5,h7,H6,H8,h5,H7,H3,h3,H1,H0,h9,h8,B3n,B3,B4n,B4,B5n,B5,HB,HM⟩:=h;have DH19:=h9.out (zL (h0 ⟨19,.data⟩ (by simp) rfl));have DH11:=H7.out (zL (h0 ⟨11,.data⟩ (by simp) rfl));subst DH19;obtain⟨l0,sa,sc,rfl,rfl,rfl,rfl⟩:=DH11;have l1:=zL (h0 ⟨11,.data⟩ (by simp) rfl);subst ha;rw[a9];simp only[zP,List.foldl_cons,List.foldl_nil,Act.put,sPa,sPb,sPc];obtain⟨k0,k1,k2,k3,k4,k5,k6,k7,k8⟩:=zW HB;have kf:=zA HB 4;go_simp;have j0:=zF w ⟨o,4,none⟩ (.slice sa (m+1) sc);have k9:=heap_setCell_same w o 4 _ _ (.slice sa (m+1) sc) HB;refine hK.out _ _ ?_;refine⟨x68,x70,x71,x72,x76,(.slice sa (m+1) sc),x81,x82,x83,(.pointer (some ⟨o,4,none⟩)),x85,vE,nE,xE,(.slice sa (m+1) sc),(m+1),(ints pre++[Value.int .i64 0]),vL,nL,xL,vF,nF,xF,ls,c3,(.slice sa (m+1) sc),c5,?fa20,fun j hj=>zD (HR j hj),(hs7N H9),Kh (fun h h4=>H2.out (zE (by decide) h) (zI h4)),(hs7Q H4),(hs7Q H5),(hs7N h7),(hs7Q H6),(hs7P H8),Kh (fun h=>absurd (zD l1) (by rw[h];simp)),Kh (fun _=>⟨zD l0,sa,sc,rfl,rfl,rfl,rfl⟩),(hs7P H3),(hs7N h3),(hs7Q H1),(hs7P H0),Kh (fun _=>rfl),(hs7P h8),(hs7N B3n),(hs7R B3),Kh (fun h=>yG h),Kh (fun _=>⟨zD (zL (h0 ⟨11,.data⟩ (by simp) rfl)),zD (zL (h0 ⟨18,.chain⟩ (by simp) rfl)),rfl⟩),(hs7N B5n),(hs7B B5 h6),(by simpa using k9),HM.far j0 a2 a3 (HM.not_type HB (by simp))⟩
  case fa20=>rw[a9];simp only[zP,List.foldl_cons,List.foldl_nil,Act.put,sPa,sPb,sPc]
 case s21 =>
  intro l a w h h6 h0 K hK;obtain⟨x68,x70,x71,x72,x76,x77,x81,x82,x83,x84,x85,vE,nE,xE,vP,nP,xP,vL,nL,xL,vF,nF,xF,ls,c3,c4,c5,ha,HR,H9,H2,H4,H5,h7,H6,H8,h5,H7,H3,h3,H1,H0,h9,h8,B3n,B3,B4n,B4,B5n,B5,HB,HM⟩:=h;subst ha;rw[a9];simp only[zP,List.foldl_cons,List.foldl_nil,Act.put,sPa,sPb,sPc];go_simp;refine hK.out _ _ ?_;refine⟨x68,x70,x71,x72,x76,x77,x81,x82,x83,x84,(.pointer (some ⟨o,5,none⟩)),vE,nE,xE,vP,nP,xP,vL,nL,xL,vF,nF,xF,ls,c3,c4,c5,?fa21,fun j hj=>zD (HR j hj),(hs7N H9),Kh (fun h h4=>H2.out (zE (by decide) h) (zI h4)),(hs7Q H4),(hs7Q H5),(hs7N h7),(hs7Q H6),(hs7P H8),(hs7N h5),(hs7Q H7),(hs7P H3),(hs7N h3),(hs7Q H1),(hs7P H0),(hs7P h9),Kh (fun _=>rfl),(hs7N B3n),(hs7R B3),(hs7N B4n),(hs7R B4),(hs7N B5n),(hs7R B5),HB,HM⟩
  case fa21=>rw[a9];simp only[zP,List.foldl_cons,List.foldl_nil,Act.put,sPa,sPb,sPc]
 intro l a w h h6 h0 K hK;obtain⟨x68,x70,x71,x72,x76,x77,x81,x82,x83,x84,x85,vE,nE,xE,vP,nP,xP,vL,nL,xL,vF,nF,xF,ls,c3,c4,c5,ha,HR,H9,H2,H4,H5,h7,H6,H8,h5,H7,H3,h3,H1,H0,h9,h8,B3n,B3,B4n,B4,B5n,B5,HB,HM⟩:=h;have DH21:=h8.out (zL (h0 ⟨21,.data⟩ (by simp) rfl));have DH16:=H1.out (zL (h0 ⟨16,.data⟩ (by simp) rfl));subst DH21;obtain⟨l0,sa,sc,rfl,rfl,rfl,rfl⟩:=DH16;have l1:=zL (h0 ⟨16,.data⟩ (by simp) rfl);subst ha;rw[a9];simp only[zP,List.foldl_cons,List.foldl_nil,Act.put,sPa,sPb,sPc];obtain⟨k0,k1,k2,k3,k4,k5,k6,k7,k8⟩:=zW HB;have kf:=zA HB 5;go_simp;have j0:=zF w ⟨o,5,none⟩ (.slice sa (m+1) sc);have k9:=heap_setCell_same w o 5 _ _ (.slice sa (m+1) sc) HB;refine hK.out _ _ ?_;refine⟨x68,x70,x71,x72,x76,x77,x81,(.slice sa (m+1) sc),x83,x84,(.pointer (some ⟨o,5,none⟩)),vE,nE,xE,vP,nP,xP,(.slice sa (m+1) sc),(m+1),(ints a5++[Value.int .i64 (x:Int)]),vF,nF,xF,ls,c3,c4,(.slice sa (m+1) sc),?fa22,fun j hj=>zD (HR j hj),(hs7N H9),Kh (fun h h4=>H2.out (zE (by decide) h) (zI h4)),(hs7Q H4),(hs7Q H5),(hs7N h7),(hs7Q H6),(hs7P H8),(hs7N h5),(hs7Q H7),(hs7P H3),Kh (fun h=>absurd (zD l1) (by rw[h];simp)),Kh (fun _=>⟨zD l0,sa,sc,rfl,rfl,rfl,rfl⟩),(hs7P H0),(hs7P h9),Kh (fun _=>rfl),(hs7N B3n),(hs7R B3),(hs7N B4n),(hs7R B4),Kh (fun h=>yG h),Kh (fun _=>⟨zD (zL (h0 ⟨16,.data⟩ (by simp) rfl)),zD (zL (h0 ⟨20,.chain⟩ (by simp) rfl)),rfl⟩),(by simpa using k9),HM.far j0 a2 a3 (HM.not_type HB (by simp))⟩
 case fa22=>rw[a9];simp only[zP,List.foldl_cons,List.foldl_nil,Act.put,sPa,sPb,sPc]
end Go.Proofs.Ytobakifdllameaa
