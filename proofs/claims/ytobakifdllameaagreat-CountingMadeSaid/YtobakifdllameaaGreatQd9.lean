/- Part 9 of the proof. -/
import Derived.Test.YtobakifdllameaaGreatQd8
set_option linter.unusedVariables false
set_option linter.unusedSimpArgs false
set_option maxRecDepth 100000
set_option maxHeartbeats 16000000
namespace Go.Proofs.YtobakifdllameaaGreat
def bW (pre las:List Int):Nat->Nat->List Nat
 | 0,_=>[]
 | f+1,i=>if las.getD i 0<0 then [] else bW pre las f (pre.getD i 0).toNat++[(las.getD i 0).toNat]
def vK (pre las:List Int)(i:Nat):List Nat:=bW pre las (i+1) i
def rT (pre las:List Int)(n k:Nat):Prop:=∀i,i<n->las.getD i 0<0\/(0<=las.getD i 0/\las.getD i 0<k/\0<=pre.getD i 0/\pre.getD i 0<i)
theorem qIL {pre a9:List Int}{n k:Nat}(h:rT pre a9 n k):∀(i f g:Nat),i<n->i<f->i<g->bW pre a9 f i=bW pre a9 g i:=by
 intro i
 induction i using Nat.strongRecOn with
 | ind i ih =>
  intro f g hi hf hg
  match f,g,hf,hg with
  | f+1,g+1,hf,hg =>
   rw[bW,bW]
   split
   ·rfl
   rename_i hl
   rcases h i hi with h1|⟨h1,h2,h3,h4⟩
   ·exact absurd h1 hl
   rw[ih (pre.getD i 0).toNat (by omega) f g (by omega) (by omega) (by omega)]
theorem qGJ {pre a9:List Int}{n k:Nat}(h:rT pre a9 n k)(f i:Nat)(hi:i<n)(hf:i<f):bW pre a9 f i=vK pre a9 i:=qIL h i f (i+1) hi hf (by omega)
theorem oC {pre a9:List Int}{i:Nat}(h:a9.getD i 0<0):vK pre a9 i=[]:=by rw[vK,bW,if_pos h]
theorem oD {pre a9:List Int}{n k i:Nat}(h:rT pre a9 n k)(hi:i<n)(hl:¬a9.getD i 0<0):vK pre a9 i=vK pre a9 (pre.getD i 0).toNat++[(a9.getD i 0).toNat]:=by
 rw[vK,bW,if_neg hl];rcases h i hi with h1|⟨h1,h2,h3,h4⟩
 ·exact absurd h1 hl
 rw[qGJ h i _ (by omega) (by omega)]
theorem oY {pre a9:List Int}{n k:Nat}(h:rT pre a9 n k):∀i,i<n->(∀a∈vK pre a9 i,a<k)/\(vK pre a9 i).length<=i:=by
 intro i
 induction i using Nat.strongRecOn with
 | ind i ih =>
  intro hi;by_cases hl:a9.getD i 0<0
  ·rw[oC hl];exact⟨fun a ha=>by simp at ha,by simp⟩
  rcases h i hi with h1|⟨h1,h2,h3,h4⟩
  ·exact absurd h1 hl
  rw[oD h hi hl];have:=ih (pre.getD i 0).toNat (by omega) (by omega);refine⟨fun a ha=>?_,by rw[List.length_append,List.length_singleton];omega⟩;rcases List.mem_append.1 ha with ha|ha
  ·exact this.1 a ha
  rw[List.mem_singleton]at ha;omega
open Go.RowKit
theorem zZ {w:World}{p e:Nat}{x0 x1 x2 x3 x4 x5 x6 x7 x8:Value}(h:w.heap[p]?=some (.cells #[x0,x1,x2,x3,x4,x5,x6,x7,x8] e (0,0))):w.cell? ⟨p,0,none⟩=some x0/\w.cell? ⟨p,1,none⟩=some x1/\w.cell? ⟨p,2,none⟩=some x2/\w.cell? ⟨p,3,none⟩=some x3/\w.cell? ⟨p,4,none⟩=some x4/\w.cell? ⟨p,5,none⟩=some x5/\w.cell? ⟨p,6,none⟩=some x6/\w.cell? ⟨p,7,none⟩=some x7/\w.cell? ⟨p,8,none⟩=some x8:=by
 have c0:=zH h 0;have c1:=zH h 1;have c2:=zH h 2;have c3:=zH h 3;have c4:=zH h 4;have c5:=zH h 5;have c6:=zH h 6;have c7:=zH h 7;have c8:=zH h 8;simp only[List.getElem_toArray,List.getElem_cons_zero,List.getElem_cons_succ]at c0 c1 c2 c3 c4 c5 c6 c7 c8;exact⟨c0,c1,c2,c3,c4,c5,c6,c7,c8⟩
theorem lL (B C:Nat)(w:World)(x0 x1 x2 x3 x4 x5 x6 x7 x8:Value)(pre a9:List Int)(n k i0:Nat)(hB:B<=w.heap.size)(hC:C<=w.heap.size)(h4:Row B w x4 (ints pre))(h5:Row C w x5 (ints a9))(a8:pre.length=n)(a7:a9.length=n)(a6:rT pre a9 n k)(hk:k<=6)(hn:n<=2000)(hi:i0<n):Calls Tryz.prog 62 #[.agg #[x0,x1,x2,x3,x4,x5,x6,x7,x8],.int .i64 (i0:Int)] w fun e w'=>e=.returned (.string (strOfNums (lets (vK pre a9 i0))))/\w.grownBy w' none:=by
 obtain⟨pb,po,pc,rfl,c0,H3,h7,a0⟩:=h4.some_ (by rw[zJ];omega);obtain⟨qb,qo,qc,rfl,b8,H2,h6,H9⟩:=h5.some_ (by rw[zJ];omega);rw[zJ,a8]at H3⊢;rw[zJ,a7]at H2⊢;have b0:pc<=9223372036854775807:=by unfold maxLen at h7;omega
 have a5:qc<=9223372036854775807:=by unfold maxLen at h6;omega
 obtain⟨wA,H0⟩:=Nm (w.alloc (.cells #[x0,x1,x2,x3,.slice (some ⟨pb,po,none⟩) n pc,.slice (some ⟨qb,qo,none⟩) n qc,x6,x7,x8] 106));have h0:wA.heap[w.heap.size]?=some (.cells #[x0,x1,x2,x3,.slice (some ⟨pb,po,none⟩) n pc,.slice (some ⟨qb,qo,none⟩) n qc,x6,x7,x8] 106 (0,0)):=by rw[H0];exact heap_alloc_new w _
 have h9:w.grownBy wA none:=by rw[H0];exact Ga w _ none
 obtain⟨P,hP⟩:=Nm w.heap.size;have b5:=Kh hP;rw[<-hP]at h0 hB hC;obtain⟨a4,b7,b3⟩:=K3 h0 h9 H0;have a1:=Kh (a0.kept h9 (by simp));have b4:=Kh (H9.kept h9 (by simp));obtain⟨H7,a2,b6⟩:=K3 a6 a8 a7;clear h0 h9 H0 a0 H9 h4 h5 h7 h6 a6 a8 a7;go_enter Tryz.func62,Tryz.ntmps62;go_upto_region 1 with fail;rw[<-b3.out,<-b5.out];clear hP;go_wp2
 go_loopg [1,5] n (fun gh i v5 wr=>∃(j:Nat) (acc:List Nat),j<=gh/\j<n/\i=.int .i64 j/\v5=.string (strOfNums (lets acc))/\vK pre a9 i0=vK pre a9 j++acc/\acc.length<=2000/\wA.grownBy wr none)
 case atStart=>exact⟨i0,[],by omega,hi,rfl,rfl,by simp,by simp,zU _ _⟩
 obtain⟨j,acc,hg,hj,rfl,rfl,hw,c3,h8⟩:=hrel;obtain⟨HW,a3,HG⟩:=K3 hw h8 hg;obtain⟨d0,d1,d2,d3,d4,d5,d6,d7,d8⟩:=zZ (zB a4.out h8);have cl:=(b4.out.kept h8 (by simp)).int j (by rw[b6.out];exact hj);have cp:=(a1.out.kept h8 (by simp)).int j (by rw[a2.out];exact hj);have c1:(j:Int)<n:=by omega
 clear hw h8 hg d0 d1 d2 d3 d6 d7 d8;by_cases hl:a9.getD j 0<0
 ·have HE:Hid (vK pre a9 i0=acc):=Kh (by rw[HW.out,oC hl];rfl)
  obtain⟨x,hx⟩:=Nm (a9.getD j 0);rw[<-hx]at cl hl;clear hx;go_wp2;go_ret;exact⟨by rw[HE.out];rfl,zG b7.out a3.out⟩
 rcases H7.out j hj with h1|⟨h1,h2,h3,h4⟩
 ·exact absurd h1 hl
 have H1:=oD H7.out hj hl;obtain⟨a,ha⟩:∃a:Nat,(a:Int)=a9.getD j 0:=⟨(a9.getD j 0).toNat,by omega⟩;obtain⟨p,hp⟩:∃p:Nat,(p:Int)=pre.getD j 0:=⟨(pre.getD j 0).toNat,by omega⟩;rw[<-ha,<-hp]at H1;rw[<-ha]at cl h1 h2;rw[<-hp]at cp h3 h4;have b9:p<j:=(by omega);have HE:Hid (vK pre a9 i0=vK pre a9 p++(a::acc)):=Kh (by rw[HW.out,H1];simp);have b1:=(oY H7.out i0 hi).2
 have H5:(a::acc).length<=2000:=by
  have:=congrArg List.length HE.out;rw[List.length_append]at this;omega
 have H6:a<26:=(by omega);obtain⟨X,hX⟩:=Nm (strOfNums [97+(a:Int)]);obtain⟨Y,hY⟩:=Nm (strOfNums (lets acc))
 have c2:∀W:World,(Op.stringOp .add X Y).run Tryz.prog W=.ok (.string (X++Y)) W:=fun W=>run_string_add_sum W X Y (by
  rw[hX,hY,strOfNums_size,strOfNums_size];simp[lets];omega)
 have b2:Hid (X++Y=strOfNums (lets (a::acc))):=Kh (by rw[hX,hY,qFJ];rfl);rw[<-hY];have HL:=fun W=>Kh (iU W a H6);rw[<-hX]at HL;clear hl H1 ha hp h1 h2 h3 h4 hX hY b1;go_wp2_with fail;refine(HL _).out.mono ?_;rintro e w2 ⟨rfl,H4⟩;have H8:=Kh (zG a3.out H4);obtain⟨e0,e1,e2,e3,e4,e5,e6,e7,e8⟩:=zZ (zB a4.out H8.out);have cp2:=(a1.out.kept H8.out (by simp)).int j (by rw[a2.out];exact hj);have cp3:=zK cp H4;clear H4 e0 e1 e2 e3 e6 e7 e8 cp2 HL d4 d5;go_wp2;go_roundg p
 case measure=>have:=HG.out;omega
 exact⟨p,a::acc,Nat.le_refl _,by omega,rfl,by rw[b2.out],HE.out,H5,H8.out⟩
theorem xN {α:Type}{l:List α}{x d:α}{i:Nat}(h:i<l.length):(l++[x]).getD i d=l.getD i d:=by
 rw[List.getD_eq_getElem?_getD,List.getElem?_append_left h,<-List.getD_eq_getElem?_getD]
theorem wN {α:Type}{l:List α}{x d:α}{i:Nat}(h:i=l.length):(l++[x]).getD i d=x:=by
 subst h;rw[List.getD_eq_getElem?_getD,List.getElem?_append_right (Nat.le_refl _)];simp
theorem qAY {pre a9:List Int}{m k p a:Nat}(h:rT pre a9 m k)(hp:pre.length=m)(hl:a9.length=m)(h1:p<m)(h2:a<k):rT (pre++[(p:Int)]) (a9++[(a:Int)]) (m+1) k:=by
 intro i hi;rcases Nat.lt_or_ge i m with h3|h3
 ·rw[xN (by omega),xN (by omega)]
  exact h i h3
 rw[wN (by omega),wN (by omega)];exact .inr ⟨by omega,by omega,by omega,by omega⟩
def TX (X:Nat->Prop)(w:World)(v:Value)(ts:List (List Nat)):Prop:=∃hs,RowX X 22 w v hs/\xU X 3 nats w hs ts
theorem TX.kept {X:Nat->Prop}{w w':World}{v:Value}{ts:List (List Nat)}(h:TX X w v ts)(hk:xV X w w')(hs:w.heap.size<=w'.heap.size):TX X w' v ts:=by
 obtain⟨l,h1,h2⟩:=h;exact⟨l,h1.kept hk hs,h2.kept hk hs⟩
theorem TX.mono {X X':Nat->Prop}{w:World}{v:Value}{ts:List (List Nat)}(h:TX X w v ts)(hX:∀k,X k->X' k):TX X' w v ts:=by
 obtain⟨l,h1,h2⟩:=h;exact⟨l,h1.mono hX,h2.mono hX⟩
theorem TX.tmat {X:Nat->Prop}{w:World}{v:Value}{ts:List (List Nat)}(h:TX X w v ts):TMat w.heap.size w v ts:=by
 obtain⟨l,h1,h2⟩:=h;exact⟨l,h1.1.row,h2.1,fun i h3 h4=>(h2.2 i h3 h4).1⟩
theorem qDT {base n:Nat}{X:Nat->Prop}{w:World}{v:Value}{hs:List Value}{ts:List (List Nat)}(ho:w.ownsRow base 22 1 v n hs)(h:xU X 3 nats w hs ts):TMat w.heap.size w v ts:=⟨hs,Row.of_owns ho,h.rowsT⟩
def sZ (l:List (List Nat)):List Value:=l.map fun u=>.string (strOfNums (lets u))
theorem qAC {W:World}{e base g:Nat}{xs:List Value}{k:Nat}(h:W.heap[g]?=some (.cells xs.toArray e (0,0)))(hb:base<=g)(hk:xs.length=k)(hm:k<=maxLen):W.ownsRow base e 1 (.slice (some ⟨g,0,none⟩) k k) k xs :=
 ⟨by omega,.inr ⟨g,k,xs.toArray,rfl,hb,h,Nat.le_refl _,hm,by simp[hk],by simp[<-hk]⟩⟩
def yO (gs:List (List Nat))(n:Nat):Nat->List (List Nat)×List Int×List Int
 | 0=>([List.range n],[-1],[-1])
 | x+1=>if gs.getD x []∈(yO gs n x).1 then yO gs n x else ((yO gs n x).1++[gs.getD x []],(yO gs n x).2.1++[0],(yO gs n x).2.2++[(x:Int)])
theorem rZ {w:World}{p e:Nat}{z0 z1 z2 z3 z4 z5 z6 z7 z8:Value}(h:w.heap[p]?=some (.cells #[z0,z1,z2,z3,z4,z5,z6,z7,z8] e (0,0)))(x0 x1 x2 x3 x4 x5 x6 x7 x8:Value):(((((((((w.setCell ⟨p,0,none⟩ x0).setCell ⟨p,1,none⟩ x1).setCell ⟨p,2,none⟩ x2).setCell ⟨p,3,none⟩ x3).setCell ⟨p,4,none⟩ x4).setCell ⟨p,5,none⟩ x5).setCell ⟨p,6,none⟩ x6).setCell ⟨p,7,none⟩ x7).setCell ⟨p,8,none⟩ x8).heap[p]?=some (.cells #[x0,x1,x2,x3,x4,x5,x6,x7,x8] e (0,0))/\w.grownBy (((((((((w.setCell ⟨p,0,none⟩ x0).setCell ⟨p,1,none⟩ x1).setCell ⟨p,2,none⟩ x2).setCell ⟨p,3,none⟩ x3).setCell ⟨p,4,none⟩ x4).setCell ⟨p,5,none⟩ x5).setCell ⟨p,6,none⟩ x6).setCell ⟨p,7,none⟩ x7).setCell ⟨p,8,none⟩ x8) (some p):=by
 have s0:=heap_setCell_same w p 0 _ _ x0 h;have s1:=heap_setCell_same _ p 1 _ _ x1 s0;have s2:=heap_setCell_same _ p 2 _ _ x2 s1;have s3:=heap_setCell_same _ p 3 _ _ x3 s2;have s4:=heap_setCell_same _ p 4 _ _ x4 s3;have s5:=heap_setCell_same _ p 5 _ _ x5 s4;have s6:=heap_setCell_same _ p 6 _ _ x6 s5;have s7:=heap_setCell_same _ p 7 _ _ x7 s6;have s8:=heap_setCell_same _ p 8 _ _ x8 s7;refine⟨by rw[s8];simp,?_⟩;have t:=fun(W:World) (i:Nat) (u:Value)=>zF W ⟨p,i,none⟩ u;exact zG (zG (zG (zG (zG (zG (zG (zG (t _ 0 _) (t _ 1 _)) (t _ 2 _)) (t _ 3 _)) (t _ 4 _)) (t _ 5 _)) (t _ 6 _)) (t _ 7 _)) (t _ 8 _)
theorem OwnT.other {base n:Nat}{w w':World}{v:Value}{ts:List (List Nat)}{r e:Nat}{c:Array Value}{m:Nat×Nat}(h:OwnT base w v n ts)(hg:w.grownBy w' (some r))(hr:w.heap[r]?=some (.cells c e m))(h1:e≠22)(h2:e≠3):OwnT base w' v n ts:=by
 obtain⟨hs,h3,h4,h5⟩:=h;exact⟨hs,h3.kept hg (.inr (zV h3 hr (Ne.symm h1))),(h4.kept hg (fun k e=>.inr (by have e:=Oj e;subst e;exact⟨_,_,_,hr,h2⟩))).mono hg.size,h5⟩
inductive start5I (n b0 o0:Nat)(gs:List (List Nat))(hv:Value)(vg:Value)(w5:World)(a0:Act)(l:Array Bool)(a:Act)(w:World):Prop
 | mk (x30:Value) (x31:Value) (x6:Value) (o:Nat) (ha:a=zP a0 [(30,x30),(31,x31),(6,x6)]) (HR:∀j∈[0,1,2,3,4,5],l.getD j true=true) (H6:Hid (l.getD 6 true=true->∃sa sc,x30=.slice sa gs.length sc/\OwnT 0 w (.slice sa gs.length sc) gs.length gs)) (H7:Hid (l.getD 7 true=true->l.getD 6 true=true/\x31=.agg #[.int .i64 n,.bool true,x30,.slice none 0 0,.slice none 0 0,.slice none 0 0,.slice none 0 0,.slice none 0 0,.int .i64 0])) (H8:Hid (l.getD 8 true=true->x6=.pointer (some ⟨o,0,none⟩)/\w5.heap.size<=o)) (B1:Hid (l.getD 8 true=true->(l.getD 9 true=false->w.heap[o]?=some (.cells #[.int .i64 0,.bool false,.slice none 0 0,.slice none 0 0,.slice none 0 0,.slice none 0 0,.slice none 0 0,.slice none 0 0,.int .i64 0] 106 (0,0))))) (B2:Hid (l.getD 9 true=true->l.getD 6 true=true/\l.getD 8 true=true/\w.heap[o]?=some (.cells #[.int .i64 n,.bool true,x30,.slice none 0 0,.slice none 0 0,.slice none 0 0,.slice none 0 0,.slice none 0 0,.int .i64 0] 106 (0,0)))) (HG:(w5.grownBy w none))
theorem qMW {n b0 o0:Nat}{gs:List (List Nat)}{hv:Value}{vg:Value}{w5:World}{a0:Act}{l:Array Bool}{a:Act}{w:World}(hc:w5.cell? ⟨b0,o0,none⟩=some hv)(h:start5I n b0 o0 gs hv vg w5 a0 l a w):wH 9 (fun _=>True) (fun W=>W.cell? ⟨b0,o0,none⟩=some hv) l w:=by
 obtain⟨x30,x31,x6,o,ha,HR,H6,H7,H8,B1,B2,HG⟩:=h;exact⟨trivial,fun _=>zK hc HG⟩
theorem lP {n b0 o0:Nat}{gs:List (List Nat)}{hv:Value}{vg:Value}{w5:World}{a0:Act}{l:Array Bool}{a:Act}{w:World}(h:start5I n b0 o0 gs hv vg w5 a0 l a w):∀j∈[0,1,2,3,4,5],l.getD j true=true:=by
 obtain⟨x30,x31,x6,o,ha,HR,H6,H7,H8,B1,B2,HG⟩:=h;exact HR
theorem qBH {n b0 o0:Nat}{gs:List (List Nat)}{hv:Value}{vg:Value}{w5:World}{v0 v1 v2 v3 v4 v5 v6 v7 v8 v9 j5 j6 j7 j8 j9 i0 i1 i2 i3 i4 i5 i6 i7 i8 i9 g0 g1 g2 g3 g4 g5 g6 g7 g8 g9 f9 e0 e1 e2 e3 e4 e5 e6 e7 e8 e9 d0 d1 d2 d3 d4 d5 d6 d7 d8 d9 c0 c1 c2 c3 c4 c5 c6 c7 c8 c9 b1 b2 b3 b4 b5 b6 b7 b8 b9 a1 a2 a3 a4 a5 a6 a7:Value}{dd:_}{a0:Act}(a9:a0=⟨#[v0,v1,v2,v3,v4,v5,v6,v7,v8,v9,j5,j6,j7,j8,j9,i0,i1,i2,i3,i4,i5,i6,i7,i8,vg,.pointer (some ⟨b0,o0,none⟩),hv,.int .i64 n,.bool true,vg,i9,g0,g1,g2,g3,g4,g5,g6,g7,g8,g9,f9,e0,e1,e2,e3,e4,e5,e6,e7,e8,e9,d0,d1,d2,d3,d4,d5,d6,d7,d8,d9,c0,c1,c2,c3,c4,c5,c6,c7,c8,c9,b1,b2,b3,b4,b5,b6,b7,b8,b9,a1,a2,a3,a4,a5,a6,a7],dd⟩)(j4:∀W:World,w5.grownBy W none->Calls Tryz.prog 123 #[vg] W (dG W gs))(a8:Array Oper)(Q7:Exit->Act->World->Prop):pU (iJ Tryz.prog .any a8 Q7 (start5I n b0 o0 gs hv vg w5 a0)) 0 (qD Tryz.f90 5).toList:=by
 refine⟨?s0,?s1,?s2,?s3,?s4,?s5,?s6,?s7,?s8,?s9,trivial⟩
 case s0 =>
  exact fun l a w h h1=>absurd (lP h 0 (by simp)) (by rw[h1];simp)
 case s1 =>
  exact fun l a w h h1=>absurd (lP h 1 (by simp)) (by rw[h1];simp)
 case s2 =>
  exact fun l a w h h1=>absurd (lP h 2 (by simp)) (by rw[h1];simp)
 case s3 =>
  exact fun l a w h h1=>absurd (lP h 3 (by simp)) (by rw[h1];simp)
 case s4 =>
  exact fun l a w h h1=>absurd (lP h 4 (by simp)) (by rw[h1];simp)
 case s5 =>
  exact fun l a w h h1=>absurd (lP h 5 (by simp)) (by rw[h1];simp)
 case s6 =>
  intro l a w h h1 h0 K hK;obtain⟨x30,x31,x6,o,ha,HR,H6,H7,H8,B1,B2,HG⟩:=h;subst ha;rw[a9];simp only[zP,List.foldl_cons,List.foldl_nil,Act.put,sPa,sPb,sPc];go_simp
  go_at_call 123
  refine(j4 w HG).mono ?_;rintro e w6 ⟨sa,sc,rfl,h2,h4⟩;refine hK.out _ _ ?_;refine⟨(.slice sa gs.length sc),x31,x6,o,?fa6,fun j hj=>zD (HR j hj),Kh (fun _=>⟨sa,sc,rfl,h2.base (Nat.zero_le _)⟩),(hs7A H7 h1),(hs7P H8),Kh (fun h h9=>zB (B1.out (zE (by decide) h) (zI h9)) h4),(hs7A B2 h1),zC HG h4⟩
  case fa6=>rw[a9];simp only[zP,List.foldl_cons,List.foldl_nil,Act.put,sPa,sPb,sPc]
 case s7 =>
  intro l a w h h1 h0 K hK;obtain⟨x30,x31,x6,o,ha,HR,H6,H7,H8,B1,B2,HG⟩:=h;have DH6:=H6.out (zM (h0 ⟨6,.data⟩ (by simp) rfl));obtain⟨sa,sc,rfl,h2⟩:=DH6;subst ha;rw[a9];simp only[zP,List.foldl_cons,List.foldl_nil,Act.put,sPa,sPb,sPc];go_simp;refine hK.out _ _ ?_;refine⟨(.slice sa gs.length sc),(.agg #[.int .i64 n,.bool true,.slice sa gs.length sc,.slice none 0 0,.slice none 0 0,.slice none 0 0,.slice none 0 0,.slice none 0 0,.int .i64 0]),x6,o,?fa7,fun j hj=>zD (HR j hj),Kh (fun _=>⟨sa,sc,rfl,h2⟩),Kh (fun _=>⟨zD (zM (h0 ⟨6,.data⟩ (by simp) rfl)),rfl⟩),(hs7P H8),Kh (fun h h9=>B1.out (zE (by decide) h) (zI h9)),(hs7R B2),HG⟩
  case fa7=>rw[a9];simp only[zP,List.foldl_cons,List.foldl_nil,Act.put,sPa,sPb,sPc]
 case s8 =>
  intro l a w h h1 h0 K hK;obtain⟨x30,x31,x6,o,ha,HR,H6,H7,H8,B1,B2,HG⟩:=h;subst ha;rw[a9];simp only[zP,List.foldl_cons,List.foldl_nil,Act.put,sPa,sPb,sPc];go_simp;refine hK.out _ _ ?_;refine⟨x30,x31,(.pointer (some ⟨w.heap.size,0,none⟩)),w.heap.size,?fa8,fun j hj=>zD (HR j hj),Kh (fun h=>let ⟨sa,sc,e,ho⟩:=H6.out (zE (by decide) h);⟨sa,sc,e,ho.grow (Ga w (.cells #[.int .i64 0,.bool false,.slice none 0 0,.slice none 0 0,.slice none 0 0,.slice none 0 0,.slice none 0 0,.slice none 0 0,.int .i64 0] 106) none)⟩),(hs7Q H7),Kh (fun _=>⟨rfl,HG.size⟩),Kh (fun _ _=>heap_alloc_new w _),(hs7B B2 h1),zC HG (Ga w (.cells #[.int .i64 0,.bool false,.slice none 0 0,.slice none 0 0,.slice none 0 0,.slice none 0 0,.slice none 0 0,.slice none 0 0,.int .i64 0] 106) none)⟩
  case fa8=>rw[a9];simp only[zP,List.foldl_cons,List.foldl_nil,Act.put,sPa,sPb,sPc]
 intro l a w h h1 h0 K hK;obtain⟨x30,x31,x6,o,ha,HR,H6,H7,H8,B1,B2,HG⟩:=h;have DH8:=H8.out (zM (h0 ⟨8,.data⟩ (by simp) rfl));have DB1:=B1.out (zM (h0 ⟨8,.data⟩ (by simp) rfl));have DH7:=H7.out (zM (h0 ⟨7,.data⟩ (by simp) rfl));have DH6:=H6.out (zM (h0 ⟨6,.chain⟩ (by simp) rfl));obtain⟨rfl,ho⟩:=DH8;obtain⟨sa,sc,rfl,h2⟩:=DH6;obtain⟨h5,rfl⟩:=DH7;have h7:=zM (h0 ⟨8,.data⟩ (by simp) rfl);have hb:=DB1 h1;subst ha;rw[a9];simp only[zP,List.foldl_cons,List.foldl_nil,Act.put,sPa,sPb,sPc];obtain⟨k0,k1,k2,k3,k4,k5,k6,k7,k8⟩:=zZ hb;have f0:=zA hb 0;have f1:=zA hb 1;have f2:=zA hb 2;have f3:=zA hb 3;have f4:=zA hb 4;have f5:=zA hb 5;have f6:=zA hb 6;have f7:=zA hb 7;have f8:=zA hb 8;go_simp;obtain⟨h6,h3⟩:=rZ hb (.int .i64 n) (.bool true) (.slice sa gs.length sc) (.slice none 0 0) (.slice none 0 0) (.slice none 0 0) (.slice none 0 0) (.slice none 0 0) (.int .i64 0);refine hK.out _ _ ?_;refine⟨(.slice sa gs.length sc),(.agg #[.int .i64 n,.bool true,.slice sa gs.length sc,.slice none 0 0,.slice none 0 0,.slice none 0 0,.slice none 0 0,.slice none 0 0,.int .i64 0]),(.pointer (some ⟨o,0,none⟩)),o,?fa9,fun j hj=>zD (HR j hj),Kh (fun _=>⟨sa,sc,rfl,h2.other h3 hb (by decide) (by decide)⟩),Kh (fun _=>⟨zD h5,rfl⟩),Kh (fun _=>⟨rfl,ho⟩),Kh (fun _ h9=>yF h9),Kh (fun _=>⟨zD h5,zD h7,h6⟩),yG HG h3 (by show _<=o;omega)⟩
 case fa9=>rw[a9];simp only[zP,List.foldl_cons,List.foldl_nil,Act.put,sPa,sPb,sPc]
inductive start16I (n P o m u x:Nat)(f:List Nat)(pre las:List Int)(us hsE:List Value)(sE:Option Addr)(cE:Nat)(sP:Option Addr)(cP:Nat)(sL:Option Addr)(cL:Nat)(sU:Option Addr)(cU:Nat)(gv:Value)(w4:World)(FF:Nat->Prop)(a0:Act)(l:Array Bool)(a:Act)(w:World):Prop
 | mk (x68:Value) (x70:Value) (x71:Value) (x72:Value) (x76:Value) (x77:Value) (x81:Value) (x82:Value) (x83:Value) (x84:Value) (x85:Value) (vE:Value) (nE:Nat) (xE:List Value) (vP:Value) (nP:Nat) (xP:List Value) (vL:Value) (nL:Nat) (xL:List Value) (vF:Value) (nF:Nat) (xF:List Value) (ls:List (Nat×Obj)) (c3:Value) (c4:Value) (c5:Value) (ha:a=zP a0 [(68,x68),(70,x70),(71,x71),(72,x72),(76,x76),(77,x77),(81,x81),(82,x82),(83,x83),(84,x84),(85,x85)]) (HR:∀j∈[0,1,3,7,8,9,12,13,14],l.getD j true=true) (H2n:Hid (l.getD 2 true=false->vF=.slice none 0 0/\nF=0/\xF=[])) (H2:Hid (l.getD 2 true=true->(l.getD 4 true=false->∃g,x68=.slice (some ⟨g,0,none⟩) 0 0/\vF=.slice (some ⟨g,0,none⟩) 0 0/\nF=0/\xF=[]))) (H4:Hid (l.getD 4 true=true->l.getD 2 true=true/\∃sa sc,x70=.slice sa n sc/\vF=.slice sa n sc/\n=nF/\xF=nats f)) (H5:Hid (l.getD 5 true=true->l.getD 4 true=true/\∃g,x71=.slice (some ⟨g,0,none⟩) 1 1/\(g,Obj.cells #[vF] 22 (0,0))∈ls)) (H6n:Hid (l.getD 6 true=false->vE=.slice sE m cE/\m=nE/\hsE=xE)) (H6:Hid (l.getD 6 true=true->l.getD 4 true=true/\∃sa sc,vE=.slice sa (m+1) sc/\x72=.slice sa (m+1) sc/\nE=m+1/\xE=hsE++[vF])) (H10:Hid (l.getD 10 true=true->∃g,x76=.slice (some ⟨g,0,none⟩) 1 1/\(g,Obj.cells #[.int .i64 0] 3 (0,0))∈ls)) (H11n:Hid (l.getD 11 true=false->vP=.slice sP m cP/\m=nP/\xP=ints pre)) (H11:Hid (l.getD 11 true=true->l.getD 6 true=true/\∃sa sc,vP=.slice sa (m+1) sc/\x77=.slice sa (m+1) sc/\nP=m+1/\xP=ints pre++[.int .i64 0])) (H15:Hid (l.getD 15 true=true->∃g,x81=.slice (some ⟨g,0,none⟩) 1 1/\(g,Obj.cells #[.int .i64 x] 3 (0,0))∈ls)) (H16n:Hid (l.getD 16 true=false->vL=.slice sL m cL/\m=nL/\xL=ints las)) (H16:Hid (l.getD 16 true=true->l.getD 11 true=true/\∃sa sc,vL=.slice sa (m+1) sc/\x82=.slice sa (m+1) sc/\nL=m+1/\xL=ints las++[.int .i64 x])) (H17:Hid (l.getD 17 true=true->x83=.pointer (some ⟨o,3,none⟩))) (H19:Hid (l.getD 19 true=true->x84=.pointer (some ⟨o,4,none⟩))) (H21:Hid (l.getD 21 true=true->x85=.pointer (some ⟨o,5,none⟩))) (B3n:Hid (l.getD 18 true=false->c3=.slice sE m cE)) (B3:Hid (l.getD 18 true=true->l.getD 6 true=true/\l.getD 16 true=true/\c3=vE)) (B4n:Hid (l.getD 20 true=false->c4=.slice sP m cP)) (B4:Hid (l.getD 20 true=true->l.getD 11 true=true/\l.getD 18 true=true/\c4=vP)) (B5n:Hid (l.getD 22 true=false->c5=.slice sL m cL)) (B5:Hid (l.getD 22 true=true->l.getD 16 true=true/\l.getD 20 true=true/\c5=vL)) (HB:(w.heap[o]?=some (.cells #[.int .i64 n,.bool true,gv,c3,c4,c5,.slice none 0 0,.slice sU u cU,.int .i64 0] 106 (0,0)))) (HM:(Many w4 FF w [⟨P,22,vE,nE,xE,1⟩,⟨P,3,vP,nP,xP,1⟩,⟨P,3,vL,nL,xL,1⟩,⟨P,180,.slice sU u cU,u,us,2⟩,⟨P,3,vF,nF,xF,1⟩] ls []))
theorem qIV {n P o m u x:Nat}{f:List Nat}{pre a9:List Int}{us a8:List Value}{sE:Option Addr}{cE:Nat}{sP:Option Addr}{cP:Nat}{sL:Option Addr}{cL:Nat}{sU:Option Addr}{cU:Nat}{gv:Value}{w4:World}{FF:Nat->Prop}{a0:Act}{l:Array Bool}{a:Act}{w:World}(h:start16I n P o m u x f pre a9 us a8 sE cE sP cP sL cL sU cU gv w4 FF a0 l a w):wH 18 (fun _=>True) (fun W=>W.cell? ⟨o,3,none⟩=some (.slice sE m cE)/\W.cell? ⟨o,4,none⟩=some (.slice sP m cP)/\W.cell? ⟨o,5,none⟩=some (.slice sL m cL)) l w:=by
 obtain⟨x68,x70,x71,x72,x76,x77,x81,x82,x83,x84,x85,vE,nE,xE,vP,nP,xP,vL,nL,xL,vF,nF,xF,ls,c3,c4,c5,ha,HR,h5,H2,H4,H5,h4,H6,H3,h3,H1,H0,h2,h9,h8,h7,h6,B3n,B3,B4n,B4,B5n,B5,HB,HM⟩:=h;obtain⟨k0,k1,k2,k3,k4,k5,k6,k7,k8⟩:=zZ HB;refine⟨trivial,fun h18=>?_⟩
 have h0:l.getD 20 true=false:=by
  rcases h0:l.getD 20 true with _|_
  ·rfl
  have:=(B4.out h0).2.1;rw[h18]at this;cases this
 have h1:l.getD 22 true=false:=by
  rcases h1:l.getD 22 true with _|_
  ·rfl
  have:=(B5.out h1).2.1;rw[h0]at this;cases this
 rw[B3n.out h18]at k3;rw[B4n.out h0]at k4;rw[B5n.out h1]at k5;exact⟨k3,k4,k5⟩
theorem rB {n P o m u x:Nat}{f:List Nat}{pre a9:List Int}{us a8:List Value}{sE:Option Addr}{cE:Nat}{sP:Option Addr}{cP:Nat}{sL:Option Addr}{cL:Nat}{sU:Option Addr}{cU:Nat}{gv:Value}{w4:World}{FF:Nat->Prop}{a0:Act}{l:Array Bool}{a:Act}{w:World}(h:start16I n P o m u x f pre a9 us a8 sE cE sP cP sL cL sU cU gv w4 FF a0 l a w):∀j∈[0,1,3,7,8,9,12,13,14],l.getD j true=true:=by
 obtain⟨x68,x70,x71,x72,x76,x77,x81,x82,x83,x84,x85,vE,nE,xE,vP,nP,xP,vL,nL,xL,vF,nF,xF,ls,c3,c4,c5,ha,HR,h3,H2,H4,H5,h2,H6,H0,h1,h9,h8,h0,h7,h6,h5,h4,B3n,B3,B4n,B4,B5n,B5,HB,HM⟩:=h;exact HR
theorem aF {fa:Option Addr}{fc:Nat}{n P o m u x:Nat}{f:List Nat}{pre a5:List Int}{us a4:List Value}{sE:Option Addr}{cE:Nat}{sP:Option Addr}{cP:Nat}{sL:Option Addr}{cL:Nat}{sU:Option Addr}{cU:Nat}{gv:Value}{w4:World}{FF:Nat->Prop}{v0 v1 v2 v3 v4 v5 v7 v8 v9 j7 j8 j9 i0 i1 i2 i3 i4 i5 i6 i7 i8 i9 g0 g1 g3 g4 g6 g7 g8 g9 f0 f1 f2 f3 f4 f5 f6 f7 f8 f9 e0 e1 e2 e3 e4 e5 e6 e7 e8 e9 d0 d1 d2 d3 d4 d5 d6 d7 d8 d9 c0 c1 c2 c6 c7 c8 c9 b0 b1 b2 b3 b4 b5 b6 b7 b8 b9 a1:Value}{dd:_}{a0:Act}(a9:a0=⟨#[v0,v1,v2,v3,v4,v5,.pointer (some ⟨o,0,none⟩),v7,v8,v9,j7,j8,j9,i0,i1,i2,i3,i4,i5,i6,i7,i8,i9,g0,g1,g3,g4,g6,g7,g8,g9,f0,f1,f2,f3,f4,f5,f6,f7,f8,f9,e0,e1,e2,e3,e4,e5,e6,e7,e8,e9,d0,d1,d2,d3,d4,d5,d6,d7,d8,d9,c0,c1,c2,c6,c7,.pointer (some ⟨o,3,none⟩),.slice sE m cE,c8,.slice fa n fc,c9,b0,b1,.pointer (some ⟨o,4,none⟩),.slice sP m cP,.int .i64 0,b2,b3,.pointer (some ⟨o,5,none⟩),.slice sL m cL,.int .i64 x,b4,b5,b6,b7,b8,b9,a1],dd⟩)(j6:n<=32)(j5:m<=7)(a8:P<=w4.heap.size)(a2:FF o)(a3:o<w4.heap.size)(a7:∀W:World,GrownBut w4 W FF->uZ W 1 (.slice fa n fc) n (nats f))(a6:Array Oper)(Q7:Exit->Act->World->Prop):pU (iJ Tryz.prog .any a6 Q7 (start16I n P o m u x f pre a5 us a4 sE cE sP cP sL cL sU cU gv w4 FF a0)) 0 (qD Tryz.f90 16).toList:=by
 refine⟨?s0,?s1,?s2,?s3,?s4,?s5,?s6,?s7,?s8,?s9,?s10,?s11,?s12,?s13,?s14,?s15,?s16,?s17,?s18,?s19,?s20,?s21,?s22,trivial⟩
 case s0 =>
  exact fun l a w h h6=>absurd (rB h 0 (by simp)) (by rw[h6];simp)
 case s1 =>
  exact fun l a w h h6=>absurd (rB h 1 (by simp)) (by rw[h6];simp)
 case s2 =>
  intro l a w h h6 h0 K hK;obtain⟨x68,x70,x71,x72,x76,x77,x81,x82,x83,x84,x85,vE,nE,xE,vP,nP,xP,vL,nL,xL,vF,nF,xF,ls,c3,c4,c5,ha,HR,H9,H2,H4,H5,h7,H6,H8,h5,H7,H3,h3,H1,H0,h9,h8,B3n,B3,B4n,B4,B5n,B5,HB,HM⟩:=h;obtain⟨rfl,rfl,rfl⟩:=H9.out h6;subst ha;rw[a9];simp only[zP,List.foldl_cons,List.foldl_nil,Act.put,sPa,sPb,sPc];go_simp;have j1:=HM.lit0 (j:=4) rfl a8;refine hK.out _ _ ?_;refine⟨(.slice (some ⟨w.heap.size,0,none⟩) 0 0),x70,x71,x72,x76,x77,x81,x82,x83,x84,x85,vE,nE,xE,vP,nP,xP,vL,nL,xL,(.slice (some ⟨w.heap.size,0,none⟩) 0 0),0,[],ls,c3,c4,c5,?fa2,fun j hj=>zD (HR j hj),Kh (fun h=>yF h),Kh (fun _ _=>⟨w.heap.size,rfl,rfl,rfl,rfl⟩),(hs7A H4 h6),Kh (fun h=>absurd (H4.out (H5.out (zE (by decide) h)).1).1 (by rw[h6];simp)),(hs7N h7),Kh (fun h=>absurd (H4.out (H6.out (zE (by decide) h)).1).1 (by rw[h6];simp)),(hs7P H8),(hs7N h5),(hs7Q H7),(hs7P H3),(hs7N h3),(hs7Q H1),(hs7P H0),(hs7P h9),(hs7P h8),(hs7N B3n),(hs7R B3),(hs7N B4n),(hs7R B4),(hs7N B5n),(hs7R B5),zB HB (Ga w (.cells #[] 3) none),j1⟩
  case fa2=>rw[a9];simp only[zP,List.foldl_cons,List.foldl_nil,Act.put,sPa,sPb,sPc]
 case s3 =>
  exact fun l a w h h6=>absurd (rB h 3 (by simp)) (by rw[h6];simp)
 case s4 =>
  intro l a w h h6 h0 K hK;obtain⟨x68,x70,x71,x72,x76,x77,x81,x82,x83,x84,x85,vE,nE,xE,vP,nP,xP,vL,nL,xL,vF,nF,xF,ls,c3,c4,c5,ha,HR,H9,H2,H4,H5,h7,H6,H8,h5,H7,H3,h3,H1,H0,h9,h8,B3n,B3,B4n,B4,B5n,B5,HB,HM⟩:=h;have DH2:=H2.out (zM (h0 ⟨2,.data⟩ (by simp) rfl));obtain⟨g2,rfl,rfl,rfl,rfl⟩:=DH2 h6;have j3:=zM (h0 ⟨2,.data⟩ (by simp) rfl);subst ha;rw[a9];simp only[zP,List.foldl_cons,List.foldl_nil,Act.put,sPa,sPb,sPc];have l2:uZ w 1 (.slice fa n fc) n (nats f):=a7 w HM.but;refine rO (by simp[Region.wanted]) (.tmp 68) (.tmp 69) 22 rfl yH.toN 4 _ rfl HM rfl rfl rfl rfl l2 ?g14 (Nat.zero_add n) ?g24 ?g34 a8 ?_
  case g14=>intro u hu;obtain⟨y,_,rfl⟩:=List.mem_map.1 hu;rfl
  case g24=>unfold maxLen;omega
  case g34=>omega
  intro sa sc w6 j1 j0;rw[List.nil_append]at j1;refine hK.out _ _ ?_;refine⟨(.slice (some ⟨g2,0,none⟩) 0 0),(.slice sa n sc),x71,x72,x76,x77,x81,x82,x83,x84,x85,vE,nE,xE,vP,nP,xP,vL,nL,xL,(.slice sa n sc),n,(nats f),ls,c3,c4,c5,?fa4,fun j hj=>zD (HR j hj),Kh (fun h=>absurd (zD j3) (by rw[h];simp)),Kh (fun _ h4=>yF h4),Kh (fun _=>⟨zD j3,sa,sc,rfl,rfl,rfl,rfl⟩),(hs7A H5 h6),(hs7N h7),(hs7A H6 h6),(hs7P H8),(hs7N h5),(hs7Q H7),(hs7P H3),(hs7N h3),(hs7Q H1),(hs7P H0),(hs7P h9),(hs7P h8),(hs7N B3n),(hs7R B3),(hs7N B4n),(hs7R B4),(hs7N B5n),(hs7R B5),zB HB j0 (fun e=>HM.not_type HB (by simp) 4 _ rfl e),j1⟩
  case fa4=>rw[a9];simp only[zP,List.foldl_cons,List.foldl_nil,Act.put,sPa,sPb,sPc]
 case s5 =>
  intro l a w h h6 h0 K hK;obtain⟨x68,x70,x71,x72,x76,x77,x81,x82,x83,x84,x85,vE,nE,xE,vP,nP,xP,vL,nL,xL,vF,nF,xF,ls,c3,c4,c5,ha,HR,H9,H2,H4,H5,h7,H6,H8,h5,H7,H3,h3,H1,H0,h9,h8,B3n,B3,B4n,B4,B5n,B5,HB,HM⟩:=h;have DH4:=H4.out (zM (h0 ⟨4,.data⟩ (by simp) rfl));obtain⟨j3,sa,sc,rfl,rfl,rfl,rfl⟩:=DH4;have j4:=zM (h0 ⟨4,.data⟩ (by simp) rfl);subst ha;rw[a9];simp only[zP,List.foldl_cons,List.foldl_nil,Act.put,sPa,sPb,sPc];go_simp;refine hK.out _ _ ?_;refine⟨x68,(Value.slice sa n sc),(.slice (some ⟨w.heap.size,0,none⟩) 1 1),x72,x76,x77,x81,x82,x83,x84,x85,vE,nE,xE,vP,nP,xP,vL,nL,xL,(Value.slice sa n sc),n,(nats f),((w.heap.size,Obj.cells #[Value.slice sa n sc] 22 (0,0))::ls),c3,c4,c5,?fa5,fun j hj=>zD (HR j hj),Kh (fun h=>absurd (zD j3) (by rw[h];simp)),Kh (fun h h4=>absurd (zD j4) (by rw[h4];simp)),Kh (fun _=>⟨zD j3,sa,sc,rfl,rfl,rfl,rfl⟩),Kh (fun _=>⟨zD j4,w.heap.size,rfl,List.Mem.head _⟩),(hs7N h7),(hs7Q H6),Kh (fun h=>let ⟨g,h1,h2⟩:=H8.out (zE (by decide) h);⟨g,h1,List.Mem.tail _ h2⟩),(hs7N h5),(hs7Q H7),Kh (fun h=>let ⟨g,h1,h2⟩:=H3.out (zE (by decide) h);⟨g,h1,List.Mem.tail _ h2⟩),(hs7N h3),(hs7Q H1),(hs7P H0),(hs7P h9),(hs7P h8),(hs7N B3n),(hs7R B3),(hs7N B4n),(hs7R B4),(hs7N B5n),(hs7R B5),zB HB (Ga w (.cells #[Value.slice sa n sc] 22) none),HM.alloc (.cells #[Value.slice sa n sc] 22)⟩
  case fa5=>rw[a9];simp only[zP,List.foldl_cons,List.foldl_nil,Act.put,sPa,sPb,sPc]
 case s6 =>
  intro l a w h h6 h0 K hK;obtain⟨x68,x70,x71,x72,x76,x77,x81,x82,x83,x84,x85,vE,nE,xE,vP,nP,xP,vL,nL,xL,vF,nF,xF,ls,c3,c4,c5,ha,HR,H9,H2,H4,H5,h7,H6,H8,h5,H7,H3,h3,H1,H0,h9,h8,B3n,B3,B4n,B4,B5n,B5,HB,HM⟩:=h;have DH5:=H5.out (zM (h0 ⟨5,.data⟩ (by simp) rfl));obtain⟨j4,g5,rfl,j2⟩:=DH5;obtain⟨j3,s4,c4',e70,rfl,l5,l4⟩:=H4.out j4;obtain⟨rfl,rfl,rfl⟩:=h7.out h6;subst ha;rw[a9];simp only[zP,List.foldl_cons,List.foldl_nil,Act.put,sPa,sPb,sPc];refine sF (by simp[Region.wanted]) (.tmp 67) (.tmp 71) 27 rfl wG 0 g5 1 rfl HM rfl rfl rfl rfl ?g16 ?g26 ?g36 j2 rfl ?_
  case g16=>show m+1<=maxLen;unfold maxLen;omega
  case g26=>show (m+1)*24<=140737488355328;omega
  case g36=>exact a8
  intro sa sc w6 j1 j0;refine hK.out _ _ ?_;refine⟨x68,x70,(.slice (some ⟨g5,0,none⟩) 1 1),(.slice sa (m+1) sc),x76,x77,x81,x82,x83,x84,x85,(.slice sa (m+1) sc),(m+1),(a4++[Value.slice s4 n c4']),vP,nP,xP,vL,nL,xL,(Value.slice s4 n c4'),nF,xF,ls,c3,c4,c5,?fa6,fun j hj=>zD (HR j hj),Kh (fun h=>absurd (zD j3) (by rw[h];simp)),Kh (fun h h4=>absurd (zD j4) (by rw[h4];simp)),Kh (fun _=>⟨zD j3,s4,c4',e70,rfl,l5,l4⟩),Kh (fun _=>⟨zD j4,g5,rfl,j2⟩),Kh (fun h=>yF h),Kh (fun _=>⟨zD j4,sa,sc,rfl,rfl,rfl,rfl⟩),(hs7P H8),(hs7N h5),(hs7A H7 h6),(hs7P H3),(hs7N h3),(hs7Q H1),(hs7P H0),(hs7P h9),(hs7P h8),(hs7N B3n),(hs7A B3 h6),(hs7N B4n),(hs7R B4),(hs7N B5n),(hs7R B5),zB HB j0 (fun e=>HM.not_type HB (by simp) 0 _ rfl e),j1⟩
  case fa6=>rw[a9];simp only[zP,List.foldl_cons,List.foldl_nil,Act.put,sPa,sPb,sPc]
 case s7 =>
  exact fun l a w h h6=>absurd (rB h 7 (by simp)) (by rw[h6];simp)
 case s8 =>
  exact fun l a w h h6=>absurd (rB h 8 (by simp)) (by rw[h6];simp)
 case s9 =>
  exact fun l a w h h6=>absurd (rB h 9 (by simp)) (by rw[h6];simp)
 case s10 =>
  intro l a w h h6 h0 K hK;obtain⟨x68,x70,x71,x72,x76,x77,x81,x82,x83,x84,x85,vE,nE,xE,vP,nP,xP,vL,nL,xL,vF,nF,xF,ls,c3,c4,c5,ha,HR,H9,H2,H4,H5,h7,H6,H8,h5,H7,H3,h3,H1,H0,h9,h8,B3n,B3,B4n,B4,B5n,B5,HB,HM⟩:=h;subst ha;rw[a9];simp only[zP,List.foldl_cons,List.foldl_nil,Act.put,sPa,sPb,sPc];go_simp;refine hK.out _ _ ?_;refine⟨x68,x70,x71,x72,(.slice (some ⟨w.heap.size,0,none⟩) 1 1),x77,x81,x82,x83,x84,x85,vE,nE,xE,vP,nP,xP,vL,nL,xL,vF,nF,xF,((w.heap.size,Obj.cells #[Value.int .i64 0] 3 (0,0))::ls),c3,c4,c5,?fa10,fun j hj=>zD (HR j hj),(hs7N H9),Kh (fun h h4=>H2.out (zE (by decide) h) (zI h4)),(hs7Q H4),Kh (fun h=>⟨zD (H5.out (zE (by decide) h)).1,let ⟨g,h1,h2⟩:=(H5.out (zE (by decide) h)).2;⟨g,h1,List.Mem.tail _ h2⟩⟩),(hs7N h7),(hs7Q H6),Kh (fun _=>⟨w.heap.size,rfl,List.Mem.head _⟩),(hs7N h5),(hs7Q H7),Kh (fun h=>let ⟨g,h1,h2⟩:=H3.out (zE (by decide) h);⟨g,h1,List.Mem.tail _ h2⟩),(hs7N h3),(hs7Q H1),(hs7P H0),(hs7P h9),(hs7P h8),(hs7N B3n),(hs7R B3),(hs7N B4n),(hs7R B4),(hs7N B5n),(hs7R B5),zB HB (Ga w (.cells #[Value.int .i64 0] 3) none),HM.alloc (.cells #[Value.int .i64 0] 3)⟩
  case fa10=>rw[a9];simp only[zP,List.foldl_cons,List.foldl_nil,Act.put,sPa,sPb,sPc]
 case s11 =>
  intro l a w h h6 h0 K hK;obtain⟨x68,x70,x71,x72,x76,x77,x81,x82,x83,x84,x85,vE,nE,xE,vP,nP,xP,vL,nL,xL,vF,nF,xF,ls,c3,c4,c5,ha,HR,H9,H2,H4,H5,h7,H6,H8,h5,H7,H3,h3,H1,H0,h9,h8,B3n,B3,B4n,B4,B5n,B5,HB,HM⟩:=h;have DH10:=H8.out (zM (h0 ⟨10,.data⟩ (by simp) rfl));obtain⟨g5,rfl,j2⟩:=DH10;obtain⟨rfl,rfl,rfl⟩:=h5.out h6;have l3:=zM (h0 ⟨6,.chain⟩ (by simp) rfl);subst ha;rw[a9];simp only[zP,List.foldl_cons,List.foldl_nil,Act.put,sPa,sPb,sPc];refine sF (by simp[Region.wanted]) (.tmp 74) (.tmp 76) 22 rfl yH 1 g5 1 rfl HM rfl rfl rfl rfl ?g111 ?g211 ?g311 j2 rfl ?_
  case g111=>show m+1<=maxLen;unfold maxLen;omega
  case g211=>show (m+1)*8<=140737488355328;omega
  case g311=>exact a8
  intro sa sc w6 j1 j0;refine hK.out _ _ ?_;refine⟨x68,x70,x71,x72,(.slice (some ⟨g5,0,none⟩) 1 1),(.slice sa (m+1) sc),x81,x82,x83,x84,x85,vE,nE,xE,(.slice sa (m+1) sc),(m+1),((ints pre)++[Value.int .i64 0]),vL,nL,xL,vF,nF,xF,ls,c3,c4,c5,?fa11,fun j hj=>zD (HR j hj),(hs7N H9),Kh (fun h h4=>H2.out (zE (by decide) h) (zI h4)),(hs7Q H4),(hs7Q H5),(hs7N h7),(hs7Q H6),Kh (fun _=>⟨g5,rfl,j2⟩),Kh (fun h=>yF h),Kh (fun _=>⟨zD l3,sa,sc,rfl,rfl,rfl,rfl⟩),(hs7P H3),(hs7N h3),(hs7A H1 h6),(hs7P H0),(hs7P h9),(hs7P h8),(hs7N B3n),(hs7R B3),(hs7N B4n),(hs7A B4 h6),(hs7N B5n),(hs7R B5),zB HB j0 (fun e=>HM.not_type HB (by simp) 1 _ rfl e),j1⟩
  case fa11=>rw[a9];simp only[zP,List.foldl_cons,List.foldl_nil,Act.put,sPa,sPb,sPc]
 case s12 =>
  exact fun l a w h h6=>absurd (rB h 12 (by simp)) (by rw[h6];simp)
 case s13 =>
  exact fun l a w h h6=>absurd (rB h 13 (by simp)) (by rw[h6];simp)
 case s14 =>
  exact fun l a w h h6=>absurd (rB h 14 (by simp)) (by rw[h6];simp)
 case s15 =>
  intro l a w h h6 h0 K hK;obtain⟨x68,x70,x71,x72,x76,x77,x81,x82,x83,x84,x85,vE,nE,xE,vP,nP,xP,vL,nL,xL,vF,nF,xF,ls,c3,c4,c5,ha,HR,H9,H2,H4,H5,h7,H6,H8,h5,H7,H3,h3,H1,H0,h9,h8,B3n,B3,B4n,B4,B5n,B5,HB,HM⟩:=h;subst ha;rw[a9];simp only[zP,List.foldl_cons,List.foldl_nil,Act.put,sPa,sPb,sPc];go_simp;refine hK.out _ _ ?_;refine⟨x68,x70,x71,x72,x76,x77,(.slice (some ⟨w.heap.size,0,none⟩) 1 1),x82,x83,x84,x85,vE,nE,xE,vP,nP,xP,vL,nL,xL,vF,nF,xF,((w.heap.size,Obj.cells #[Value.int .i64 (x:Int)] 3 (0,0))::ls),c3,c4,c5,?fa15,fun j hj=>zD (HR j hj),(hs7N H9),Kh (fun h h4=>H2.out (zE (by decide) h) (zI h4)),(hs7Q H4),Kh (fun h=>⟨zD (H5.out (zE (by decide) h)).1,let ⟨g,h1,h2⟩:=(H5.out (zE (by decide) h)).2;⟨g,h1,List.Mem.tail _ h2⟩⟩),(hs7N h7),(hs7Q H6),Kh (fun h=>let ⟨g,h1,h2⟩:=H8.out (zE (by decide) h);⟨g,h1,List.Mem.tail _ h2⟩),(hs7N h5),(hs7Q H7),Kh (fun _=>⟨w.heap.size,rfl,List.Mem.head _⟩),(hs7N h3),(hs7Q H1),(hs7P H0),(hs7P h9),(hs7P h8),(hs7N B3n),(hs7R B3),(hs7N B4n),(hs7R B4),(hs7N B5n),(hs7R B5),zB HB (Ga w (.cells #[Value.int .i64 (x:Int)] 3) none),HM.alloc (.cells #[Value.int .i64 (x:Int)] 3)⟩
  case fa15=>rw[a9];simp only[zP,List.foldl_cons,List.foldl_nil,Act.put,sPa,sPb,sPc]
 case s16 =>
  intro l a w h h6 h0 K hK;obtain⟨x68,x70,x71,x72,x76,x77,x81,x82,x83,x84,x85,vE,nE,xE,vP,nP,xP,vL,nL,xL,vF,nF,xF,ls,c3,c4,c5,ha,HR,H9,H2,H4,H5,h7,H6,H8,h5,H7,H3,h3,H1,H0,h9,h8,B3n,B3,B4n,B4,B5n,B5,HB,HM⟩:=h;have DH15:=H3.out (zM (h0 ⟨15,.data⟩ (by simp) rfl));obtain⟨g5,rfl,j2⟩:=DH15;obtain⟨rfl,rfl,rfl⟩:=h3.out h6;have l3:=zM (h0 ⟨11,.chain⟩ (by simp) rfl);subst ha;rw[a9];simp only[zP,List.foldl_cons,List.foldl_nil,Act.put,sPa,sPb,sPc];refine sF (by simp[Region.wanted]) (.tmp 79) (.tmp 81) 22 rfl yH 2 g5 1 rfl HM rfl rfl rfl rfl ?g116 ?g216 ?g316 j2 rfl ?_
  case g116=>show m+1<=maxLen;unfold maxLen;omega
  case g216=>show (m+1)*8<=140737488355328;omega
  case g316=>exact a8
  intro sa sc w6 j1 j0;refine hK.out _ _ ?_;refine⟨x68,x70,x71,x72,x76,x77,(.slice (some ⟨g5,0,none⟩) 1 1),(.slice sa (m+1) sc),x83,x84,x85,vE,nE,xE,vP,nP,xP,(.slice sa (m+1) sc),(m+1),((ints a5)++[Value.int .i64 (x:Int)]),vF,nF,xF,ls,c3,c4,c5,?fa16,fun j hj=>zD (HR j hj),(hs7N H9),Kh (fun h h4=>H2.out (zE (by decide) h) (zI h4)),(hs7Q H4),(hs7Q H5),(hs7N h7),(hs7Q H6),(hs7P H8),(hs7N h5),(hs7Q H7),Kh (fun _=>⟨g5,rfl,j2⟩),Kh (fun h=>yF h),Kh (fun _=>⟨zD l3,sa,sc,rfl,rfl,rfl,rfl⟩),(hs7P H0),(hs7P h9),(hs7P h8),(hs7N B3n),(hs7B B3 h6),(hs7N B4n),(hs7R B4),(hs7N B5n),(hs7A B5 h6),zB HB j0 (fun e=>HM.not_type HB (by simp) 2 _ rfl e),j1⟩
  case fa16=>rw[a9];simp only[zP,List.foldl_cons,List.foldl_nil,Act.put,sPa,sPb,sPc]
 case s17 =>
  intro l a w h h6 h0 K hK;obtain⟨x68,x70,x71,x72,x76,x77,x81,x82,x83,x84,x85,vE,nE,xE,vP,nP,xP,vL,nL,xL,vF,nF,xF,ls,c3,c4,c5,ha,HR,H9,H2,H4,H5,h7,H6,H8,h5,H7,H3,h3,H1,H0,h9,h8,B3n,B3,B4n,B4,B5n,B5,HB,HM⟩:=h;subst ha;rw[a9];simp only[zP,List.foldl_cons,List.foldl_nil,Act.put,sPa,sPb,sPc];go_simp;refine hK.out _ _ ?_;refine⟨x68,x70,x71,x72,x76,x77,x81,x82,(.pointer (some ⟨o,3,none⟩)),x84,x85,vE,nE,xE,vP,nP,xP,vL,nL,xL,vF,nF,xF,ls,c3,c4,c5,?fa17,fun j hj=>zD (HR j hj),(hs7N H9),Kh (fun h h4=>H2.out (zE (by decide) h) (zI h4)),(hs7Q H4),(hs7Q H5),(hs7N h7),(hs7Q H6),(hs7P H8),(hs7N h5),(hs7Q H7),(hs7P H3),(hs7N h3),(hs7Q H1),Kh (fun _=>rfl),(hs7P h9),(hs7P h8),(hs7N B3n),(hs7R B3),(hs7N B4n),(hs7R B4),(hs7N B5n),(hs7R B5),HB,HM⟩
  case fa17=>rw[a9];simp only[zP,List.foldl_cons,List.foldl_nil,Act.put,sPa,sPb,sPc]
 case s18 =>
  intro l a w h h6 h0 K hK;obtain⟨x68,x70,x71,x72,x76,x77,x81,x82,x83,x84,x85,vE,nE,xE,vP,nP,xP,vL,nL,xL,vF,nF,xF,ls,c3,c4,c5,ha,HR,H9,H2,H4,H5,h7,H6,H8,h5,H7,H3,h3,H1,H0,h9,h8,B3n,B3,B4n,B4,B5n,B5,HB,HM⟩:=h;have DH17:=H0.out (zM (h0 ⟨17,.data⟩ (by simp) rfl));have DH6:=H6.out (zM (h0 ⟨6,.data⟩ (by simp) rfl));subst DH17;obtain⟨l0,sa,sc,rfl,rfl,rfl,rfl⟩:=DH6;have l1:=zM (h0 ⟨6,.data⟩ (by simp) rfl);subst ha;rw[a9];simp only[zP,List.foldl_cons,List.foldl_nil,Act.put,sPa,sPb,sPc];obtain⟨k0,k1,k2,k3,k4,k5,k6,k7,k8⟩:=zZ HB;have kf:=zA HB 3;go_simp;have j0:=zF w ⟨o,3,none⟩ (.slice sa (m+1) sc);have k9:=heap_setCell_same w o 3 _ _ (.slice sa (m+1) sc) HB;refine hK.out _ _ ?_;refine⟨x68,x70,x71,(.slice sa (m+1) sc),x76,x77,x81,x82,(.pointer (some ⟨o,3,none⟩)),x84,x85,(.slice sa (m+1) sc),(m+1),(a4++[vF]),vP,nP,xP,vL,nL,xL,vF,nF,xF,ls,(.slice sa (m+1) sc),c4,c5,?fa18,fun j hj=>zD (HR j hj),(hs7N H9),Kh (fun h h4=>H2.out (zE (by decide) h) (zI h4)),(hs7Q H4),(hs7Q H5),Kh (fun h=>absurd (zD l1) (by rw[h];simp)),Kh (fun _=>⟨zD l0,sa,sc,rfl,rfl,rfl,rfl⟩),(hs7P H8),(hs7N h5),(hs7Q H7),(hs7P H3),(hs7N h3),(hs7Q H1),Kh (fun _=>rfl),(hs7P h9),(hs7P h8),Kh (fun h=>yF h),Kh (fun _=>⟨zD (zM (h0 ⟨6,.data⟩ (by simp) rfl)),zD (zM (h0 ⟨16,.chain⟩ (by simp) rfl)),rfl⟩),(hs7N B4n),(hs7B B4 h6),(hs7N B5n),(hs7R B5),(by simpa using k9),HM.far j0 a2 a3 (HM.not_type HB (by simp))⟩
  case fa18=>rw[a9];simp only[zP,List.foldl_cons,List.foldl_nil,Act.put,sPa,sPb,sPc]
 case s19 =>
  intro l a w h h6 h0 K hK;obtain⟨x68,x70,x71,x72,x76,x77,x81,x82,x83,x84,x85,vE,nE,xE,vP,nP,xP,vL,nL,xL,vF,nF,xF,ls,c3,c4,c5,ha,HR,H9,H2,H4,H5,h7,H6,H8,h5,H7,H3,h3,H1,H0,h9,h8,B3n,B3,B4n,B4,B5n,B5,HB,HM⟩:=h;subst ha;rw[a9];simp only[zP,List.foldl_cons,List.foldl_nil,Act.put,sPa,sPb,sPc];go_simp;refine hK.out _ _ ?_;refine⟨x68,x70,x71,x72,x76,x77,x81,x82,x83,(.pointer (some ⟨o,4,none⟩)),x85,vE,nE,xE,vP,nP,xP,vL,nL,xL,vF,nF,xF,ls,c3,c4,c5,?fa19,fun j hj=>zD (HR j hj),(hs7N H9),Kh (fun h h4=>H2.out (zE (by decide) h) (zI h4)),(hs7Q H4),(hs7Q H5),(hs7N h7),(hs7Q H6),(hs7P H8),(hs7N h5),(hs7Q H7),(hs7P H3),(hs7N h3),(hs7Q H1),(hs7P H0),Kh (fun _=>rfl),(hs7P h8),(hs7N B3n),(hs7R B3),(hs7N B4n),(hs7R B4),(hs7N B5n),(hs7R B5),HB,HM⟩
  case fa19=>rw[a9];simp only[zP,List.foldl_cons,List.foldl_nil,Act.put,sPa,sPb,sPc]
 case s20 =>
  intro l a w h h6 h0 K hK;obtain⟨x68,x70,x71,x72,x76,x77,x81,x82,x83,x84,x85,vE,nE,xE,vP,nP,xP,vL,nL,xL,vF,nF,xF,ls,c3,c4,c5,ha,HR,H9,H2,H4,H5,h7,H6,H8,h5,H7,H3,h3,H1,H0,h9,h8,B3n,B3,B4n,B4,B5n,B5,HB,HM⟩:=h;have DH19:=h9.out (zM (h0 ⟨19,.data⟩ (by simp) rfl));have DH11:=H7.out (zM (h0 ⟨11,.data⟩ (by simp) rfl));subst DH19;obtain⟨l0,sa,sc,rfl,rfl,rfl,rfl⟩:=DH11;have l1:=zM (h0 ⟨11,.data⟩ (by simp) rfl);subst ha;rw[a9];simp only[zP,List.foldl_cons,List.foldl_nil,Act.put,sPa,sPb,sPc];obtain⟨k0,k1,k2,k3,k4,k5,k6,k7,k8⟩:=zZ HB;have kf:=zA HB 4;go_simp;have j0:=zF w ⟨o,4,none⟩ (.slice sa (m+1) sc);have k9:=heap_setCell_same w o 4 _ _ (.slice sa (m+1) sc) HB;refine hK.out _ _ ?_;refine⟨x68,x70,x71,x72,x76,(.slice sa (m+1) sc),x81,x82,x83,(.pointer (some ⟨o,4,none⟩)),x85,vE,nE,xE,(.slice sa (m+1) sc),(m+1),(ints pre++[Value.int .i64 0]),vL,nL,xL,vF,nF,xF,ls,c3,(.slice sa (m+1) sc),c5,?fa20,fun j hj=>zD (HR j hj),(hs7N H9),Kh (fun h h4=>H2.out (zE (by decide) h) (zI h4)),(hs7Q H4),(hs7Q H5),(hs7N h7),(hs7Q H6),(hs7P H8),Kh (fun h=>absurd (zD l1) (by rw[h];simp)),Kh (fun _=>⟨zD l0,sa,sc,rfl,rfl,rfl,rfl⟩),(hs7P H3),(hs7N h3),(hs7Q H1),(hs7P H0),Kh (fun _=>rfl),(hs7P h8),(hs7N B3n),(hs7R B3),Kh (fun h=>yF h),Kh (fun _=>⟨zD (zM (h0 ⟨11,.data⟩ (by simp) rfl)),zD (zM (h0 ⟨18,.chain⟩ (by simp) rfl)),rfl⟩),(hs7N B5n),(hs7B B5 h6),(by simpa using k9),HM.far j0 a2 a3 (HM.not_type HB (by simp))⟩
  case fa20=>rw[a9];simp only[zP,List.foldl_cons,List.foldl_nil,Act.put,sPa,sPb,sPc]
 case s21 =>
  intro l a w h h6 h0 K hK;obtain⟨x68,x70,x71,x72,x76,x77,x81,x82,x83,x84,x85,vE,nE,xE,vP,nP,xP,vL,nL,xL,vF,nF,xF,ls,c3,c4,c5,ha,HR,H9,H2,H4,H5,h7,H6,H8,h5,H7,H3,h3,H1,H0,h9,h8,B3n,B3,B4n,B4,B5n,B5,HB,HM⟩:=h;subst ha;rw[a9];simp only[zP,List.foldl_cons,List.foldl_nil,Act.put,sPa,sPb,sPc];go_simp;refine hK.out _ _ ?_;refine⟨x68,x70,x71,x72,x76,x77,x81,x82,x83,x84,(.pointer (some ⟨o,5,none⟩)),vE,nE,xE,vP,nP,xP,vL,nL,xL,vF,nF,xF,ls,c3,c4,c5,?fa21,fun j hj=>zD (HR j hj),(hs7N H9),Kh (fun h h4=>H2.out (zE (by decide) h) (zI h4)),(hs7Q H4),(hs7Q H5),(hs7N h7),(hs7Q H6),(hs7P H8),(hs7N h5),(hs7Q H7),(hs7P H3),(hs7N h3),(hs7Q H1),(hs7P H0),(hs7P h9),Kh (fun _=>rfl),(hs7N B3n),(hs7R B3),(hs7N B4n),(hs7R B4),(hs7N B5n),(hs7R B5),HB,HM⟩
  case fa21=>rw[a9];simp only[zP,List.foldl_cons,List.foldl_nil,Act.put,sPa,sPb,sPc]
 intro l a w h h6 h0 K hK;obtain⟨x68,x70,x71,x72,x76,x77,x81,x82,x83,x84,x85,vE,nE,xE,vP,nP,xP,vL,nL,xL,vF,nF,xF,ls,c3,c4,c5,ha,HR,H9,H2,H4,H5,h7,H6,H8,h5,H7,H3,h3,H1,H0,h9,h8,B3n,B3,B4n,B4,B5n,B5,HB,HM⟩:=h;have DH21:=h8.out (zM (h0 ⟨21,.data⟩ (by simp) rfl));have DH16:=H1.out (zM (h0 ⟨16,.data⟩ (by simp) rfl));subst DH21;obtain⟨l0,sa,sc,rfl,rfl,rfl,rfl⟩:=DH16;have l1:=zM (h0 ⟨16,.data⟩ (by simp) rfl);subst ha;rw[a9];simp only[zP,List.foldl_cons,List.foldl_nil,Act.put,sPa,sPb,sPc];obtain⟨k0,k1,k2,k3,k4,k5,k6,k7,k8⟩:=zZ HB;have kf:=zA HB 5;go_simp;have j0:=zF w ⟨o,5,none⟩ (.slice sa (m+1) sc);have k9:=heap_setCell_same w o 5 _ _ (.slice sa (m+1) sc) HB;refine hK.out _ _ ?_;refine⟨x68,x70,x71,x72,x76,x77,x81,(.slice sa (m+1) sc),x83,x84,(.pointer (some ⟨o,5,none⟩)),vE,nE,xE,vP,nP,xP,(.slice sa (m+1) sc),(m+1),(ints a5++[Value.int .i64 (x:Int)]),vF,nF,xF,ls,c3,c4,(.slice sa (m+1) sc),?fa22,fun j hj=>zD (HR j hj),(hs7N H9),Kh (fun h h4=>H2.out (zE (by decide) h) (zI h4)),(hs7Q H4),(hs7Q H5),(hs7N h7),(hs7Q H6),(hs7P H8),(hs7N h5),(hs7Q H7),(hs7P H3),Kh (fun h=>absurd (zD l1) (by rw[h];simp)),Kh (fun _=>⟨zD l0,sa,sc,rfl,rfl,rfl,rfl⟩),(hs7P H0),(hs7P h9),Kh (fun _=>rfl),(hs7N B3n),(hs7R B3),(hs7N B4n),(hs7R B4),Kh (fun h=>yF h),Kh (fun _=>⟨zD (zM (h0 ⟨16,.data⟩ (by simp) rfl)),zD (zM (h0 ⟨20,.chain⟩ (by simp) rfl)),rfl⟩),(by simpa using k9),HM.far j0 a2 a3 (HM.not_type HB (by simp))⟩
 case fa22=>rw[a9];simp only[zP,List.foldl_cons,List.foldl_nil,Act.put,sPa,sPb,sPc]
end Go.Proofs.YtobakifdllameaaGreat
