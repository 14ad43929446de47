/- Part 16 of the proof. -/
import Derived.Test.YtobakifdllameaaGreatQd15
import Derived.Deep.OwnRows
set_option linter.unusedVariables false
set_option linter.unusedSimpArgs false
set_option maxRecDepth 100000
set_option maxHeartbeats 16000000
namespace Go.Proofs.YtobakifdllameaaGreat
open Go.RowKit
structure SynV where
 k:Nat
 tab:List (List Nat)
 words:List (List Nat)
 images:List Nat
 accept:List Bool
 plus:List Bool
def mK (B:Nat)(w:World)(v:Value)(ts:List (List Nat)):Prop:=∃hs,RowT B 22 w v hs/\tP B 3 nats w hs ts
theorem mK.tmat {B:Nat}{w:World}{v:Value}{ts:List (List Nat)}(h:mK B w v ts):TMat B w v ts:=by
 obtain⟨hs,h1,h2⟩:=h;exact⟨hs,h1.row,h2⟩
theorem mK.kept {B:Nat}{w w':World}{v:Value}{ts:List (List Nat)}{row:Option Nat}(h:mK B w v ts)(hg:w.grownBy w' row)(h1:∀k,row=some k->B<=k\/xG w 22 k)(h2:∀k,row=some k->B<=k\/xG w 3 k):mK B w' v ts:=by
 obtain⟨hs,h3,h4⟩:=h;exact⟨hs,h3.kept hg h1,h4.kept hg h2⟩
theorem mK.mono {B B':Nat}{w:World}{v:Value}{ts:List (List Nat)}(h:mK B w v ts)(hB:B<=B'):mK B' w v ts:=by
 obtain⟨hs,h3,h4⟩:=h;exact⟨hs,h3.mono hB,h4.mono hB⟩
theorem TX.tmatT {X:Nat->Prop}{w:World}{v:Value}{ts:List (List Nat)}(h:TX X w v ts):mK w.heap.size w v ts:=by
 obtain⟨hs,h1,h2⟩:=h;exact⟨hs,h1.1,h2.rowsT⟩
def gF (B:Nat)(w:World)(v:Value)(S:SynV):Prop:=∃vT vW vI vA vP,v=.agg #[.int .i64 S.k,vT,vW,vI,vA,vP]/\mK B w vT S.tab/\RowT B 9 w vW (sZ S.words)/\RowT B 3 w vI (nats S.images)/\RowT B 4 w vA (bls S.accept)/\RowT B 4 w vP (bls S.plus)
def qPT (e:TypeId):Prop:=22≠e/\3≠e/\9≠e/\4≠e
theorem gF.kept {B:Nat}{w w':World}{v:Value}{S:SynV}{row:Option Nat}(h:gF B w v S)(hg:w.grownBy w' row)(hr:∀k,row=some k->B<=k\/∃c e m,w.heap[k]?=some (.cells c e m)/\qPT e):gF B w' v S:=by
 obtain⟨vT,vW,vI,vA,vP,rfl,h1,h2,h3,h4,h5⟩:=h
 have t:∀e',(∀e,qPT e->e'≠e)->∀k,row=some k->B<=k\/xG w e' k:=fun e' he k hk=>by
  rcases hr k hk with h|⟨c,e,m,hb,hn⟩
  ·exact .inl h
  exact .inr ⟨c,e,m,hb,fun e1=>he e hn e1.symm⟩
 exact⟨vT,vW,vI,vA,vP,rfl,h1.kept hg (t _ (fun e h=>h.1)) (t _ (fun e h=>h.2.1)),h2.kept hg (t _ (fun e h=>h.2.2.1)),h3.kept hg (t _ (fun e h=>h.2.1)),h4.kept hg (t _ (fun e h=>h.2.2.2)),h5.kept hg (t _ (fun e h=>h.2.2.2))⟩
theorem gF.mono {B B':Nat}{w:World}{v:Value}{S:SynV}(h:gF B w v S)(hB:B<=B'):gF B' w v S:=by
 obtain⟨vT,vW,vI,vA,vP,rfl,h1,h2,h3,h4,h5⟩:=h;exact⟨vT,vW,vI,vA,vP,rfl,h1.mono hB,h2.mono hB,h3.mono hB,h4.mono hB,h5.mono hB⟩
def accE (fin:List Bool)(st:Nat)(el:List (List Nat)):List Bool:=el.map fun f=>fin.getD (f.getD st 0) false
def imgE (gs el:List (List Nat)):List Nat:=gs.map fun g=>el.idxOf g
def vJ (pr la:List Int)(m:Nat):List (List Nat):=(List.range m).map (vK pr la)
def kI (m:Nat)(l:List Nat):List Bool:=l.foldl (fun ps x=>ps.set x true) (List.replicate m false)
def SynE (gs:List (List Nat))(n st:Nat)(fin:List Bool)(S:SynV):Prop:=∃(el:List (List Nat)) (pr la:List Int) (ri:List (List Nat)) (mm:List Nat),FinE gs n el pr la ri el.length/\el.length<=400/\S.k=gs.length/\S.tab=tabE pr la ri el.length/\S.words=vJ pr la el.length/\S.images=imgE gs el/\S.accept=accE fin st el /\
 GenI (tabI S.tab) S.images mm/\oB (tabI S.tab) mm/\S.plus=kI el.length (mT (metL el.length mm))
def OfOk (gs:List (List Nat))(n st:Nat)(fin:List Bool)(w:World)(e:Ending)(w':World):Prop :=
 (e=.returned (.tuple #[.agg #[.int .i64 0,.slice none 0 0,.slice none 0 0,.slice none 0 0,.slice none 0 0,.slice none 0 0],.int .i64 3])/\(Big n/\qDL gs n)/\w.grownBy w' none) \/
 ∃(S:SynV) (v:Value),e=.returned (.tuple #[v,.int .i64 0])/\SynE gs n st fin S/\gF w'.heap.size w' v S/\w.grownBy w' none
theorem oX (pr la:List Int)(m:Nat):(vJ pr la m).length=m:=by simp[vJ]
theorem qDN {pr la:List Int}{m q:Nat}(hq:q<m):sZ ((vJ pr la m).take q)++[.string (strOfNums (lets (vK pr la q)))]=sZ ((vJ pr la m).take (q+1)):=by
 rw[List.take_succ_eq_append_getElem (by rw[oX];exact hq)];simp[sZ,vJ]
theorem qLY {fin:List Bool}{st q:Nat}{el:List (List Nat)}(hq:q<el.length):bls ((accE fin st el).take q)++[.bool (fin.getD ((el.getD q []).getD st 0) false)]=bls ((accE fin st el).take (q+1)):=by
 rw[List.take_succ_eq_append_getElem (by simpa [accE] using hq),zN hq];simp[bls,accE]
theorem qKZ {gs el:List (List Nat)}{q:Nat}(hq:q<gs.length):nats ((imgE gs el).take q)++[.int .i64 ((el.idxOf (gs.getD q []):Nat):Int)]=nats ((imgE gs el).take (q+1)):=by
 rw[List.take_succ_eq_append_getElem (by simpa [imgE] using hq),zN hq];simp[nats,imgE]
theorem TX.of_own {w:World}{o P g n:Nat}{v:Value}{ts:List (List Nat)}{e e':TypeId}{c c' c2:Array Value}{m m' m2:Nat×Nat}(h:OwnT 0 w v n ts)(hb:w.heap[o]?=some (.cells c e m))(hP:w.heap[P]?=some (.cells c' e m'))(a9:w.heap[g]?=some (.cells c2 e' m2))(h1:e≠22)(h2:e≠3)(h3:e'≠22)(h4:e'≠3):TX (fun j=>j<w.heap.size/\j≠o/\j≠P/\j≠g) w v ts:=by
 obtain⟨h8,h0,h7,h9⟩:=h;refine⟨h8,⟨RowT.of_owns h0,fun j hj=>⟨(h0.lt j hj).2,fun e1=>zV h0 hb (Ne.symm h1) (e1 ▸ hj),fun e1=>zV h0 hP (Ne.symm h1) (e1 ▸ hj),fun e1=>zV h0 a9 (Ne.symm h3) (e1 ▸ hj)⟩⟩,h7.1,fun i h5 h6=>⟨h7.2 i h5 h6,fun j hj=>?_⟩⟩;rcases h7.2 i h5 h6 with ⟨e,_⟩|⟨b,off,cap,cur,m,e,e2,e3,e4,e5,e6⟩
 ·rw[e]at hj;simp[Value.ownBlock]at hj
 rw[e]at hj;have hj:b=j:=by simpa [Value.ownBlock] using hj
 subst hj;refine⟨zR e5,fun e7=>?_,fun e7=>?_,fun e7=>?_⟩
 ·subst e7;rw[hb]at e5;simp at e5;exact h2 e5.2.1
 ·subst e7;rw[hP]at e5;simp at e5;exact h2 e5.2.1
 subst e7;rw[a9]at e5;simp at e5;exact h4 e5.2.1
theorem qON {ts:List (List Nat)}{f:List Nat}(h:f∈ts):mX ts f=((ts.idxOf f:Nat):Int):=by unfold mX;rw[if_pos h]
theorem qGZ (m:Nat)(l:List Nat)(x:Nat):kI m (l++[x])=(kI m l).set x true:=by simp[kI,List.foldl_append]
theorem gL (m:Nat)(l:List Nat):(kI m l).length=m:=by
 suffices h:∀(l:List Nat) (ps:List Bool),(l.foldl (fun ps x=>ps.set x true) ps).length=ps.length by
  rw[kI,h,List.length_replicate]
 intro l
 induction l with
 | nil=>intro ps;rfl
 | cons x l ih=>intro ps;rw[List.foldl_cons,ih,List.length_set]
theorem qRO {l:List Nat}{i:Nat}(h:i<(nats l).length):(nats l)[i]=.int .i64 ((l.getD i 0:Nat):Int):=by
 rw[zN (by simpa [nats] using h)];simp[nats]
theorem qTD {l:List Bool}{i:Nat}(h:i<(bls l).length):(bls l)[i]=.bool (l.getD i false):=by
 rw[zN (by simpa [bls] using h)];simp[bls]
theorem qOG {bs:List Bool}{x:Nat}(h:x∈mT bs):x<bs.length:=by
 have:=List.mem_filter.1 h;exact List.mem_range.1 this.1
theorem kW (gs el:List (List Nat)):(imgE gs el).length=gs.length:=by simp[imgE]
theorem jH (fin:List Bool)(st:Nat)(el:List (List Nat)):(accE fin st el).length=el.length:=by simp[accE]
theorem qEX (l:List Bool)(i:Nat)(c:Bool):(bls l).set i (.bool c)=bls (l.set i c):=by simp[bls,List.map_set]
theorem qNH (B C:Nat)(w:World)(v0 v2:Value)(gs:List (List Nat))(n st:Nat)(fin:List Bool)(hB:B<=w.heap.size)(hC:C<=w.heap.size)(h:TMat B w v0 gs)(hf:Row C w v2 (bls fin))(a7:fin.length=n)(a6:st<n)(a8:∀g∈gs,IsT n g)(a4:n<=32)(a5:1<=gs.length)(a9:gs.length<=6):Calls Tryz.prog 33 #[v0,.int .i64 (st:Int),v2] w (OfOk gs n st fin w):=by
 obtain⟨gb,gf,gc,rfl,z9,s3,A0,z7,f9⟩:=h.head (by omega);obtain⟨fb,fo,fc,rfl,A1,k5,k4,m6⟩:=hf.some_ (by rw[zX];omega);rw[zX,a7]at k5⊢;obtain⟨w1,g9⟩:=Nm (w.alloc (.cells #[.int .i64 0,.slice none 0 0,.slice none 0 0,.slice none 0 0,.slice none 0 0,.slice none 0 0] 39));have i0:w.grownBy w1 none:=by rw[g9];exact Ga w _ none
 have i2:=heap_alloc_new w (.cells #[.int .i64 0,.slice none 0 0,.slice none 0 0,.slice none 0 0,.slice none 0 0,.slice none 0 0] 39);rw[<-g9]at i2;have y6:=Kh (qEW B w1 _ gs n (Nat.le_trans hB i0.size) (h.kept i0 (by simp)) a8 (by omega) a4 a5 a9);obtain⟨P,hP⟩:=Nm w.heap.size;obtain⟨i7,t8,p8,i8,x8,x3⟩:=K6 hP g9 i0 a8 f9 m6;have y1:=Kh a7;have A5:=Kh h;rw[<-hP]at i2;have p9:=Kh i2;have s2:gc<=9223372036854775807:=by unfold maxLen at s3;omega
 have s7:fc<=9223372036854775807:=by unfold maxLen at k4;omega
 clear g9 i0 i2 a8 h hf f9 m6 a7;go_enter Tryz.func33,Tryz.ntmps33;go_upto_region 1 with fail;rw[<-t8.out,<-i7.out];clear hP;go_wp2_with fail;refine y6.out.mono ?_;rintro e w2 (⟨rfl,g4,h5⟩|⟨el,pr,la,ri,m,gN,uN,gA,uA,gC,uC,vP,vL,vR,sE,cE,rfl,e0,hl,z0,hE,i3,i4,hR,h5⟩)
 ·have m1:=Kh g4
  clear g4;have e3:=zB p9.out h5;obtain⟨w3,b9⟩:=Nm (w2.alloc (.cells #[.int .i64 0,.bool false,.slice none 0 0,.slice none 0 0,.slice none 0 0,.slice none 0 0,.slice none 0 0,.slice none 0 0,.int .i64 0] 106));have b2:w2.grownBy w3 none:=by rw[b9];exact Ga w2 _ none
  have h0:=zB e3 b2;have j1:=Kh h0;have j0:=Kh (zC (zC p8.out h5) b2);have l7:=Kh b9;obtain⟨p0,p1,p2,p3,p4,p5⟩:=yD h0;have f0:=zA h0 0;have f1:=zA h0 1;have f2:=zA h0 2;have f3:=zA h0 3;have f4:=zA h0 4;have f5:=zA h0 5;clear h5 e3 b9 b2 h0;go_upto_region 2 with fail;rw[<-l7.out];go_wp2;refine bodyPost_ret (v:=.tuple #[.agg #[.int .i64 0,.slice none 0 0,.slice none 0 0,.slice none 0 0,.slice none 0 0,.slice none 0 0],.int .i64 3]) (by simp[results,Tryz.results33,go_sem,p0,p1,p2,p3,p4,p5]) rfl ?_;obtain⟨m4,H4⟩:=uM j1.out (.int .i64 0) (.slice none 0 0) (.slice none 0 0) (.slice none 0 0) (.slice none 0 0) (.slice none 0 0);exact .inl ⟨rfl,m1.out,yG j0.out H4 (by show _<=P;have:=i7.out;omega)⟩
 obtain⟨pA,pC,rfl⟩:=i3.shape;obtain⟨lA,lC,rfl⟩:=i4.shape;obtain⟨rA,rC,rfl⟩:=hR.shape;rw[zJ,e0.en.l2,hl]at i3⊢;rw[zJ,e0.en.l3,hl]at i4⊢;rw[e0.rl]at hR⊢;obtain⟨eb,eo,ec,ee,t1,t0,t2,s8,g3⟩:=hE.head (by have:=e0.en.pos;omega);rw[hl]at ee t1;simp only[Value.slice.injEq]at ee;obtain⟨rfl,_,rfl⟩:=ee;have s9:cE<=9223372036854775807:=by unfold maxLen at t0;omega
 have e3:=zB p9.out h5;obtain⟨w3,b9⟩:=Nm (w2.alloc (.cells #[.int .i64 n,.bool true,.slice gA gN gC,.slice (some ⟨eb,eo,none⟩) m cE,.slice pA m pC,.slice lA m lC,.slice rA m rC,.slice uA uN uC,.int .i64 m] 106));have b2:w2.grownBy w3 none:=by rw[b9];exact Ga w2 _ none
 have g6:=heap_alloc_new w2 (.cells #[.int .i64 n,.bool true,.slice gA gN gC,.slice (some ⟨eb,eo,none⟩) m cE,.slice pA m pC,.slice lA m lC,.slice rA m rC,.slice uA uN uC,.int .i64 m] 106);rw[<-b9]at g6;obtain⟨b8,k6⟩:=Nm w2.heap.size;rw[<-k6]at g6;have h0:=zB e3 b2;have A3:P<b8:=by have:=zR e3;omega
 have j1:=Kh h0;have j0:=Kh (zC (zC p8.out h5) b2);obtain⟨l7,y8,y4,m0,b1,HL⟩:=K6 b9 g6 k6 b2 e0 hl;obtain⟨HE,y3,o8,p7,HR⟩:=K5 hE g3 i3 i4 hR;have z5:1<=m:=by rw[<-hl];exact e0.en.pos
 obtain⟨p0,p1,p2,p3,p4,p5⟩:=yD h0;have f0:=zA h0 0;have f1:=zA h0 1;have f2:=zA h0 2;have f3:=zA h0 3;have f4:=zA h0 4;have f5:=zA h0 5;obtain⟨q0,q1,q2,q3,q4,q5,q6,q7,q8⟩:=zZ g6;clear h5 e3 b9 b2 h0 g6 e0 hl hE i3 i4 hR k6 g3 t2 s8 q0 q1 q2 q4 q5 q6 q7 q8;go_upto_region 2 with fail;rw[<-l7.out,<-y4.out];by_cases hm4:400<m
 ·have k0:(400:Int)<m:=by omega
  go_wp2;refine bodyPost_ret (v:=.tuple #[.agg #[.int .i64 0,.slice none 0 0,.slice none 0 0,.slice none 0 0,.slice none 0 0,.slice none 0 0],.int .i64 3]) (by simp[results,Tryz.results33,go_sem,p0,p1,p2,p3,p4,p5]) rfl ?_;obtain⟨m4,H4⟩:=uM j1.out (.int .i64 0) (.slice none 0 0) (.slice none 0 0) (.slice none 0 0) (.slice none 0 0) (.slice none 0 0);exact .inl ⟨rfl,⟨⟨el,b1.out.en.nodup,by rw[HL.out];exact hm4,b1.out.en.it⟩,(show FinE gs n el pr la ri el.length by rw[HL.out];exact b1.out).nosyn (by rw[HL.out];exact hm4) (by omega) a5⟩,yG j0.out H4 (by show _<=P;have:=i7.out;omega)⟩
 have k0:¬(400:Int)<m:=by omega
 obtain⟨T,hT⟩:=Nm (tabE pr la ri m);obtain⟨w5,j6⟩:=Nm w3.drew;have g2:w3.grownBy w5 none:=(by rw[j6];exact zS w3 none);have t7:=Kh j6;have e1:=zB y8.out g2;have b4:=Kh e1;have b0:=Kh (zC m0.out g2);have m2:=Kh (zB j1.out g2);have i9:=Kh (zC j0.out g2);have k9:T.length=m:=by rw[hT];exact wQ pr la ri m
 have j5:rT pr la m gs.length:=by have:=b1.out.en.words;rw[HL.out]at this;exact this
 have m5:qFE ri m gs.length:=by
  have:=b1.out;rw[<-HL.out]at this⊢;exact this.right
 have j8:pr.length=m:=by rw[b1.out.en.l2,HL.out]
 have k1:la.length=m:=by rw[b1.out.en.l3,HL.out]
 have t9:Hid (∀W:World,w5.grownBy W none->Calls Tryz.prog 61 #[.agg #[.int .i64 n,.bool true,.slice gA gN gC,.slice (some ⟨eb,eo,none⟩) m cE,.slice pA m pC,.slice lA m lC,.slice rA m rC,.slice uA uN uC,.int .i64 m]] W (dG W T)):=Kh (fun W hg=>by
  have h5:=zC b0.out hg;rw[hT]
  exact qDU W.heap.size W.heap.size W.heap.size W _ _ _ _ _ _ cE _ _ _ pr la ri m gs.length (Nat.le_refl _) (Nat.le_refl _) (Nat.le_refl _) ((o8.out.kept h5 (by simp)).mono h5.size) ((p7.out.kept h5 (by simp)).mono h5.size) ((HR.out.kept h5 (by simp)).mono h5.size) j8 k1 j5 m5 a9 (by omega))
 obtain⟨t6,l8,d1,x5,l9⟩:=K5 j5 hT k9 j8 k1;have n0:=qEE m (by omega);have f6:=Kh (qCR m);have r7:m<=maxLen:=by unfold maxLen;omega
 have C:=Kh (zZ e1);clear g2 j6 e1 j5 m5 j8 k1 hT;go_upto_region 4 with fail;refine wp_region_noPanic ?_;refine yM (G:=wH 10 (fun W=>W.cell? ⟨b8,0,none⟩=some (.int .i64 n)/\W.cell? ⟨b8,1,none⟩=some (.bool true)/\W.cell? ⟨b8,2,none⟩=some (.slice gA gN gC)/\W.cell? ⟨b8,3,none⟩=some (.slice (some ⟨eb,eo,none⟩) m cE)/\W.cell? ⟨b8,4,none⟩=some (.slice pA m pC)/\W.cell? ⟨b8,5,none⟩=some (.slice lA m lC)/\W.cell? ⟨b8,6,none⟩=some (.slice rA m rC)/\W.cell? ⟨b8,7,none⟩=some (.slice uA uN uC)/\W.cell? ⟨b8,8,none⟩=some (.int .i64 m)) (fun _=>True)) (by kernel_rfl) ?_;rw[<-t7.out];refine zO 0 ⟨C.out,fun _=>trivial⟩ ?_;refine zO 1 ⟨C.out,fun _=>trivial⟩ ?_;refine zO 2 ⟨C.out,fun _=>trivial⟩ ?_;refine zO 4 ⟨C.out,fun _=>trivial⟩ ?_;refine zO 5 ⟨C.out,fun _=>trivial⟩ ?_;refine zO 6 ⟨C.out,fun _=>trivial⟩ ?_;refine uR (fun Wp hWp a0 ha0=>?_);subst hWp
 try simp only[Act.put,sPd,sPe,sPf,sPa,sPb,sPc]at ha0
 have y9:=Kh ha0;refine uQ (I:=of4I gs.length m b8 T (.slice (some ⟨gb,gf,none⟩) gs.length gc) (.int .i64 n) (.bool true) (.slice gA gN gC) (.slice (some ⟨eb,eo,none⟩) m cE) (.slice pA m pC) (.slice lA m lC) (.slice rA m rC) (.slice uA uN uC) (.int .i64 m) w5 a0) (fun l a w h=>qUC b4.out h) (qKC ha0 t9.out k9 n0 f6 r7) (by kernel_rfl) ?hend (by decide +kernel) ?hinit
 case hinit =>
  clear ha0;refine⟨a0.tmps.getD 34 undef,a0.tmps.getD 38 undef,a0.tmps.getD 39 undef,a0.tmps.getD 10 undef,0,(vX (by simp)).symm,by decide +kernel,Kh (fun h=>absurd h (by decide +kernel)),Kh (fun h=>absurd h (by decide +kernel)),Kh (fun h=>absurd h (by decide +kernel)),Kh (fun h=>absurd h (by decide +kernel)),Kh (fun h=>absurd h (by decide +kernel)),Kh (fun h=>absurd h (by decide +kernel)),zU _ _⟩
 clear ha0;intro l a w6 h a1;obtain⟨x34,x38,x39,x10,o,ha,HR,H3,H7,H8,H9,B1,B2,HG⟩:=h;obtain⟨sT,cT,rfl,c6⟩:=H3.out (a1 3 (by decide));obtain⟨gp,rfl,i5⟩:=H7.out (a1 7 (by decide));obtain⟨_,_,rfl⟩:=H8.out (a1 8 (by decide));obtain⟨rfl,j9⟩:=H9.out (a1 9 (by decide));obtain⟨_,_,_,_,k8⟩:=B2.out (a1 10 (by decide));clear H3 H7 H8 H9 B1 B2 HR;subst ha;rw[y9.out];simp only[zP,List.foldl_cons,List.foldl_nil,Act.put,sPa,sPb,sPc];refine NoPanic.normal ?_;obtain⟨Q,hQ⟩:=Nm w5.heap.size;have l4:=zR m2.out;have g5:=zB m2.out HG;obtain⟨kp,d8,_,_,t3⟩:=yZ i5 (by omega);have d8:gp=kp:=by simpa using d8
 subst d8;obtain⟨cp,_,f8,_⟩:=t3;have l0:=TX.of_own c6 k8 g5 f8 (by decide) (by decide) (by decide) (by decide);obtain⟨X,hX⟩:∃X:Nat->Prop,X=fun j=>j<w6.heap.size/\j≠o/\j≠P/\j≠gp:=⟨_,rfl⟩;rw[<-hX]at l0;rw[<-hQ]at i5 l4 j9;have n6:¬X P:=fun h=>by rw[hX]at h;exact h.2.2.1 rfl
 have o0:BoxS Q X o 39 w5 w6 [⟨Q,4,.slice (some ⟨gp,0,none⟩) m m,m,bls (List.replicate m false),1⟩] #[.int .i64 gs.length,.slice sT m cT,.slice none 0 0,.slice none 0 0,.slice none 0 0,.slice (some ⟨gp,0,none⟩) m m] w6 :=
  ⟨⟨fun r hr=>by rw[List.mem_singleton]at hr;subst hr;exact i5,by simp,fun r hr k hk hx=>by
    rw[List.mem_singleton]at hr;subst hr;have hk:gp=k:=by simpa [Value.ownBlock] using hk
    subst hk;rw[hX]at hx;exact hx.2.2.2 rfl,fun k hx=>by rw[hX]at hx;exact hx.1⟩,fun r hr=>by rw[List.mem_singleton]at hr;subst hr;exact⟨rfl,by simp⟩,k8,fun h=>by rw[hX]at h;exact h.2.1 rfl,by omega,by omega,by rw[hQ];exact HG.size,HG,xV.refl _ _,Nat.le_refl _⟩
 have n9:BoxS Q X o 39 w5 w6 [⟨Q,4,.slice (some ⟨gp,0,none⟩) m m,m,bls (List.replicate m false),1⟩,⟨Q,9,.slice none 0 0,0,[],1⟩,⟨Q,4,.slice none 0 0,0,[],1⟩,⟨Q,3,.slice none 0 0,0,[],1⟩] #[.int .i64 gs.length,.slice sT m cT,.slice none 0 0,.slice none 0 0,.slice none 0 0,.slice (some ⟨gp,0,none⟩) m m] w6:=((o0.nil (e:=9) (sz:=1) (by decide)).nil (e:=4) (sz:=1) (by decide)).nil (e:=3) (sz:=1) (by decide);obtain⟨o7,o4,t5,HQ,o9,p6⟩:=K6 n9 l0 n6 hQ l4 j9;have A6:=Kh HG;have r6:=zK (zZ b4.out).2.2.2.1 HG;clear o0 n9 l0 hX n6 i5 l4 g5 c6 k8 f8 hQ j9 HG n0 f6 k9;go_wp2
 go_loopg [11,12,43] m (fun gh v11 v12 i wr=>∃(q:Nat) (sW:Option Addr) (cW:Nat) (sA:Option Addr) (cA:Nat),gh+q=m/\i=.int .i64 q/\BoxS Q X o 39 w5 w6 [⟨Q,4,.slice (some ⟨gp,0,none⟩) m m,m,bls (List.replicate m false),1⟩,⟨Q,9,.slice sW q cW,q,sZ ((vJ pr la m).take q),1⟩,⟨Q,4,.slice sA q cA,q,bls ((accE fin st el).take q),1⟩,⟨Q,3,.slice none 0 0,0,[],1⟩] #[.int .i64 gs.length,.slice sT m cT,.slice sW q cW,.slice none 0 0,.slice sA q cA,.slice (some ⟨gp,0,none⟩) m m] wr)
 case atStart=>exact⟨0,none,0,none,0,by omega,rfl,o7.out⟩
 obtain⟨q,sW,cW,sA,cA,c7,rfl,hS⟩:=hrel;have d4:=Kh c7;have HS:=Kh hS;have d2:=Kh hS.grown;clear c7 hS o7;by_cases hq:q<m
 ·have m7:(q:Int)<m:=by omega
  obtain⟨xa,xc,j4,j2⟩:=y3.out q (by rw[HL.out];exact hq);have d6:IsT n (el.getD q []):=b1.out.en.it _ (uW (by rw[HL.out];exact hq));rw[d6.1]at j4 j2;have r1:=zK j4 (zC b0.out d2.out);obtain⟨xb,xo,xc',exa,r2,b3,e8,e7⟩:=j2.row.some_ (by rw[zT,d6.1];omega);rw[zT,d6.1]at exa;simp only[Value.slice.injEq]at exa;obtain⟨rfl,_,rfl⟩:=exa;obtain⟨y,hy⟩:=Nm ((el.getD q []).getD st 0);have q9:y<n:=by rw[hy];exact d6.get a6
  have m3:w2.cell? ⟨xb,xo+st,none⟩=some (.int .i64 (y:Int)):=by
   have:=e7.2 st (by rw[zT,d6.1];exact a6);rw[this,qRO,hy]
  obtain⟨bb,k7⟩:=Nm (fin.getD y false)
  have n5:w.cell? ⟨fb,fo+y,none⟩=some (.bool bb):=by
   have:=x3.out.2 y (by rw[zX,y1.out];exact q9);rw[this,qTD,k7]
  have j3:xc<=9223372036854775807:=by rw[zT]at b3;unfold maxLen at e8;omega
  have r0:n<=xc:=by rw[zT,d6.1]at b3;exact b3
  have l6:Hid (bls ((accE fin st el).take q)++[.bool bb]=bls ((accE fin st el).take (q+1))):=Kh (by
   rw[k7,hy];exact qLY (by rw[HL.out];exact hq))
  have t4:=Kh m3;have y7:=Kh n5
  have o3:Hid (∀W:World,w5.grownBy W none->Calls Tryz.prog 62 #[.agg #[.int .i64 n,.bool true,.slice gA gN gC,.slice (some ⟨eb,eo,none⟩) m cE,.slice pA m pC,.slice lA m lC,.slice rA m rC,.slice uA uN uC,.int .i64 m],.int .i64 (q:Int)] W fun e w'=>e=.returned (.string (strOfNums (lets (vK pr la q))))/\W.grownBy w' none):=Kh (fun W hg=>by
   have h5:=zC b0.out hg
   exact lL W.heap.size W.heap.size W _ _ _ _ _ _ _ _ _ pr la m gs.length q (Nat.le_refl _) (Nat.le_refl _) ((o8.out.kept h5 (by simp)).mono h5.size) ((p7.out.kept h5 (by simp)).mono h5.size) x5.out l9.out t6.out a9 (by omega) hq)
  have H1:Hid (∀(W:World) (rs:List RowS),BoxS Q X o 39 w5 w6 rs #[.int .i64 gs.length,.slice sT m cT,.slice sW q cW,.slice none 0 0,.slice sA q cA,.slice (some ⟨gp,0,none⟩) m m] W->W.cell? ⟨o,2,none⟩=some (.slice sW q cW)/\W.cell? ⟨b8,0,none⟩=some (.int .i64 n)/\W.cell? ⟨b8,1,none⟩=some (.bool true)/\W.cell? ⟨b8,2,none⟩=some (.slice gA gN gC)/\W.cell? ⟨b8,3,none⟩=some (.slice (some ⟨eb,eo,none⟩) m cE)/\W.cell? ⟨b8,4,none⟩=some (.slice pA m pC)/\W.cell? ⟨b8,5,none⟩=some (.slice lA m lC)/\W.cell? ⟨b8,6,none⟩=some (.slice rA m rC)/\W.cell? ⟨b8,7,none⟩=some (.slice uA uN uC)/\W.cell? ⟨b8,8,none⟩=some (.int .i64 m)):=Kh (fun W rs hS=>⟨(yD hS.box).2.2.1,zZ (zB b4.out hS.grown)⟩);clear j4 j2 d6 hy m3 k7 n5 e7 b3 r2 e8;obtain⟨w7,H2⟩:=Nm wr.drew;have H6:wr.grownBy w7 none:=(by rw[H2];exact zS wr none);have e5:=Kh H2;have d5:=Kh H6;clear H2 H6;go_upto_region 8 with fail;refine wp_region_noPanic ?_;refine yM (G:=wH 8 (fun _=>True) (fun W=>W.cell? ⟨o,2,none⟩=some (.slice sW q cW)/\W.cell? ⟨b8,0,none⟩=some (.int .i64 n)/\W.cell? ⟨b8,1,none⟩=some (.bool true)/\W.cell? ⟨b8,2,none⟩=some (.slice gA gN gC)/\W.cell? ⟨b8,3,none⟩=some (.slice (some ⟨eb,eo,none⟩) m cE)/\W.cell? ⟨b8,4,none⟩=some (.slice pA m pC)/\W.cell? ⟨b8,5,none⟩=some (.slice lA m lC)/\W.cell? ⟨b8,6,none⟩=some (.slice rA m rC)/\W.cell? ⟨b8,7,none⟩=some (.slice uA uN uC)/\W.cell? ⟨b8,8,none⟩=some (.int .i64 m))) (by kernel_rfl) ?_;rw[<-e5.out];have a3:=Kh (HS.out.grow d5.out);have C:Hid (w7.cell? ⟨o,2,none⟩=some (.slice sW q cW)/\w7.cell? ⟨b8,0,none⟩=some (.int .i64 n)/\w7.cell? ⟨b8,1,none⟩=some (.bool true)/\w7.cell? ⟨b8,2,none⟩=some (.slice gA gN gC)/\w7.cell? ⟨b8,3,none⟩=some (.slice (some ⟨eb,eo,none⟩) m cE)/\w7.cell? ⟨b8,4,none⟩=some (.slice pA m pC)/\w7.cell? ⟨b8,5,none⟩=some (.slice lA m lC)/\w7.cell? ⟨b8,6,none⟩=some (.slice rA m rC)/\w7.cell? ⟨b8,7,none⟩=some (.slice uA uN uC)/\w7.cell? ⟨b8,8,none⟩=some (.int .i64 m)):=Kh (H1.out w7 _ a3.out);refine zO 0 ⟨trivial,fun _=>C.out⟩ ?_;refine yY 1 ⟨trivial,fun _=>C.out⟩ ?_;refine yY 2 ⟨trivial,fun _=>C.out⟩ ?_;refine zO 3 ⟨trivial,fun _=>C.out⟩ ?_;refine oneG (i:=4) (by kernel_rfl) rfl (fun K hK=>?_);go_simp
  go_at_call 62
  refine(o3.out w7 (zC d2.out d5.out)).mono ?_;rintro e w8 ⟨rfl,g1⟩;have e2:=Kh (a3.out.grow g1);have C8:Hid (w8.cell? ⟨o,2,none⟩=some (.slice sW q cW)/\w8.cell? ⟨b8,0,none⟩=some (.int .i64 n)/\w8.cell? ⟨b8,1,none⟩=some (.bool true)/\w8.cell? ⟨b8,2,none⟩=some (.slice gA gN gC)/\w8.cell? ⟨b8,3,none⟩=some (.slice (some ⟨eb,eo,none⟩) m cE)/\w8.cell? ⟨b8,4,none⟩=some (.slice pA m pC)/\w8.cell? ⟨b8,5,none⟩=some (.slice lA m lC)/\w8.cell? ⟨b8,6,none⟩=some (.slice rA m rC)/\w8.cell? ⟨b8,7,none⟩=some (.slice uA uN uC)/\w8.cell? ⟨b8,8,none⟩=some (.int .i64 m)):=Kh (H1.out w8 _ e2.out);refine hK.out _ _ ⟨trivial,fun _=>C8.out⟩ ?_;clear hK K C a3 g1
  try simp only[Act.put,sPa,sPb,sPc]
  obtain⟨sw,j7⟩:=Nm (strOfNums (lets (vK pr la q)));have i6:Hid (sZ ((vJ pr la m).take q)++[.string sw]=sZ ((vJ pr la m).take (q+1))):=Kh (by rw[j7];exact qDN hq);rw[<-j7];clear j7;refine oneG (i:=5) (by kernel_rfl) rfl (fun K hK=>?_);go_simp;have H0:=heap_alloc_new w8 (.cells #[.string sw] 9);have H5:=Ga w8 (.cells #[.string sw] 9) none;obtain⟨gR,c8⟩:=Nm w8.heap.size;obtain⟨w9,b7⟩:=Nm (w8.alloc (.cells #[.string sw] 9));rw[<-c8]at H0⊢;rw[<-b7]at H0 H5⊢;have a2:=Kh (e2.out.grow H5);have C9:Hid (w9.cell? ⟨o,2,none⟩=some (.slice sW q cW)/\w9.cell? ⟨b8,0,none⟩=some (.int .i64 n)/\w9.cell? ⟨b8,1,none⟩=some (.bool true)/\w9.cell? ⟨b8,2,none⟩=some (.slice gA gN gC)/\w9.cell? ⟨b8,3,none⟩=some (.slice (some ⟨eb,eo,none⟩) m cE)/\w9.cell? ⟨b8,4,none⟩=some (.slice pA m pC)/\w9.cell? ⟨b8,5,none⟩=some (.slice lA m lC)/\w9.cell? ⟨b8,6,none⟩=some (.slice rA m rC)/\w9.cell? ⟨b8,7,none⟩=some (.slice uA uN uC)/\w9.cell? ⟨b8,8,none⟩=some (.int .i64 m)):=Kh (H1.out w9 _ a2.out);refine hK.out _ _ ⟨trivial,fun _=>C9.out⟩ ?_;clear hK K C8 e2 c8 b7 H5
  try simp only[Act.put,sPa,sPb,sPc]
  obtain⟨d0,b5,h3⟩:=a2.out.push;have d3:=Kh h3;have h7:=aH H0;clear h3;refine oneG (i:=6) (by kernel_rfl) rfl (fun K hK=>?_);refine oF rfl (.tmp 49) (.tmp 53) 37 rfl pI.toN 1 _ rfl ⟨_,_,_,_,_,d0,⟨Q,9,.slice sW q cW,q,sZ ((vJ pr la m).take q),1⟩,1,q+1,_,rfl,rfl,rfl,rfl,h7,?z1,rfl,?z2,?z3,?z4,?_⟩
  case z1=>intro v hv;simp only[List.mem_cons,List.not_mem_nil,or_false]at hv;subst hv;rfl
  case z2=>unfold maxLen;omega
  case z3=>show (q+1)*16<=140737488355328;omega
  case z4=>exact b5
  intro sU' cU' wM c9;have h8:=Kh (d3.out wM 1 ⟨Q,9,.slice sW q cW,q,sZ ((vJ pr la m).take q),1⟩ (.slice sU' (q+1) cU') (q+1) [.string sw] rfl c9);have CM:Hid (wM.cell? ⟨o,2,none⟩=some (.slice sW q cW)/\wM.cell? ⟨b8,0,none⟩=some (.int .i64 n)/\wM.cell? ⟨b8,1,none⟩=some (.bool true)/\wM.cell? ⟨b8,2,none⟩=some (.slice gA gN gC)/\wM.cell? ⟨b8,3,none⟩=some (.slice (some ⟨eb,eo,none⟩) m cE)/\wM.cell? ⟨b8,4,none⟩=some (.slice pA m pC)/\wM.cell? ⟨b8,5,none⟩=some (.slice lA m lC)/\wM.cell? ⟨b8,6,none⟩=some (.slice rA m rC)/\wM.cell? ⟨b8,7,none⟩=some (.slice uA uN uC)/\wM.cell? ⟨b8,8,none⟩=some (.int .i64 m)):=Kh (H1.out wM _ h8.out);refine hK.out _ _ ⟨trivial,fun _=>CM.out⟩ ?_;clear hK K C9 a2 d0 b5 d3 h7 H0 c9
  try simp only[Act.put,sPa,sPb,sPc]
  refine zO 7 ⟨trivial,fun _=>CM.out⟩ ?_;refine oneG (i:=8) (by kernel_rfl) rfl (fun K hK=>?_);have q7:=zH h8.out.box 2;simp only[List.getElem_toArray,List.getElem_cons_zero,List.getElem_cons_succ]at q7;have f7:=zA h8.out.box 2;go_simp;refine hK.out _ _ ⟨trivial,fun h=>by simp at h⟩ ?_;clear hK K q7 f7 CM
  try simp only[Act.put,sPa,sPb,sPc]
  refine tT (by kernel_rfl) ?_ _;refine NoPanic.normal ?_;obtain⟨wZ,b6⟩:=Nm (wM.setCell ⟨o,2,none⟩ (.slice sU' (q+1) cU'));have h4:=h8.out.set 2 (.slice sU' (q+1) cU');rw[<-b6]at h4⊢;simp only[sPa,sPb,sPc,i6.out]at h4;have e6:=Kh h4;clear h4 b6 h8;obtain⟨sW2,rfl⟩:=Nm (sU':Option Addr);obtain⟨cW2,rfl⟩:=Nm (cU':Nat);obtain⟨wr2,rfl⟩:=Nm (wZ:World);have o6:=e6;have x1:=Kh o6.out.grown;clear e6 H1 d2 HS d5 e5 o3 i6;have H1:Hid (∀(W:World) (rs:List RowS),BoxS Q X o 39 w5 w6 rs #[.int .i64 gs.length,.slice sT m cT,.slice sW2 (q+1) cW2,.slice none 0 0,.slice sA q cA,.slice (some ⟨gp,0,none⟩) m m] W->W.cell? ⟨o,4,none⟩=some (.slice sA q cA)/\W.cell? ⟨xb,xo+st,none⟩=some (.int .i64 (y:Int))/\W.cell? ⟨fb,fo+y,none⟩=some (.bool bb)):=Kh (fun W rs hS=>⟨(yD hS.box).2.2.2.2.1,zK t4.out (zC b0.out hS.grown),zK y7.out (zC i9.out hS.grown)⟩);obtain⟨w7,H2⟩:=Nm wr2.drew;have H6:wr2.grownBy w7 none:=(by rw[H2];exact zS wr2 none);have e5:=Kh H2;have d5:=Kh H6;clear H2 H6;go_upto_region 9 with fail;refine wp_region_noPanic ?_;refine yM (G:=wH 12 (fun _=>True) (fun W=>W.cell? ⟨o,4,none⟩=some (.slice sA q cA)/\W.cell? ⟨xb,xo+st,none⟩=some (.int .i64 (y:Int))/\W.cell? ⟨fb,fo+y,none⟩=some (.bool bb))) (by kernel_rfl) ?_;rw[<-e5.out];have a3:=Kh (o6.out.grow d5.out);have C:Hid (w7.cell? ⟨o,4,none⟩=some (.slice sA q cA)/\w7.cell? ⟨xb,xo+st,none⟩=some (.int .i64 (y:Int))/\w7.cell? ⟨fb,fo+y,none⟩=some (.bool bb)):=Kh (H1.out w7 _ a3.out);refine zO 0 ⟨trivial,fun _=>C.out⟩ ?_;refine yY 1 ⟨trivial,fun _=>C.out⟩ ?_;refine zO 2 ⟨trivial,fun _=>C.out⟩ ?_;refine zO 3 ⟨trivial,fun _=>C.out⟩ ?_;refine zO 4 ⟨trivial,fun _=>C.out⟩ ?_;refine zO 5 ⟨trivial,fun _=>C.out⟩ ?_;refine yY 6 ⟨trivial,fun _=>C.out⟩ ?_;refine zO 7 ⟨trivial,fun _=>C.out⟩ ?_;refine yY 8 ⟨trivial,fun _=>C.out⟩ ?_;refine oneG (i:=9) (by kernel_rfl) rfl (fun K hK=>?_);go_simp;have H0:=heap_alloc_new w7 (.cells #[.bool bb] 4);have H5:=Ga w7 (.cells #[.bool bb] 4) none;obtain⟨gR,c8⟩:=Nm w7.heap.size;obtain⟨w9,b7⟩:=Nm (w7.alloc (.cells #[.bool bb] 4));rw[<-c8]at H0⊢;rw[<-b7]at H0 H5⊢;have a2:=Kh (a3.out.grow H5);have C9:Hid (w9.cell? ⟨o,4,none⟩=some (.slice sA q cA)/\w9.cell? ⟨xb,xo+st,none⟩=some (.int .i64 (y:Int))/\w9.cell? ⟨fb,fo+y,none⟩=some (.bool bb)):=Kh (H1.out w9 _ a2.out);refine hK.out _ _ ⟨trivial,fun _=>C9.out⟩ ?_;clear hK K C a3 c8 b7 H5
  try simp only[Act.put,sPa,sPb,sPc]
  obtain⟨d0,b5,h3⟩:=a2.out.push;have d3:=Kh h3;have h7:=aH H0;clear h3;refine oneG (i:=10) (by kernel_rfl) rfl (fun K hK=>?_);refine oF rfl (.tmp 57) (.tmp 65) 26 rfl wF.toN 2 _ rfl ⟨_,_,_,_,_,d0,⟨Q,4,.slice sA q cA,q,bls ((accE fin st el).take q),1⟩,1,q+1,_,rfl,rfl,rfl,rfl,h7,?z1,rfl,?z2,?z3,?z4,?_⟩
  case z1=>intro v hv;simp only[List.mem_cons,List.not_mem_nil,or_false]at hv;subst hv;rfl
  case z2=>unfold maxLen;omega
  case z3=>show (q+1)*1<=140737488355328;omega
  case z4=>exact b5
  intro sU' cU' wM c9;have h8:=Kh (d3.out wM 2 ⟨Q,4,.slice sA q cA,q,bls ((accE fin st el).take q),1⟩ (.slice sU' (q+1) cU') (q+1) [.bool bb] rfl c9);have CM:Hid (wM.cell? ⟨o,4,none⟩=some (.slice sA q cA)/\wM.cell? ⟨xb,xo+st,none⟩=some (.int .i64 (y:Int))/\wM.cell? ⟨fb,fo+y,none⟩=some (.bool bb)):=Kh (H1.out wM _ h8.out);refine hK.out _ _ ⟨trivial,fun _=>CM.out⟩ ?_;clear hK K C9 a2 d0 b5 d3 h7 H0 c9
  try simp only[Act.put,sPa,sPb,sPc]
  refine zO 11 ⟨trivial,fun _=>CM.out⟩ ?_;refine oneG (i:=12) (by kernel_rfl) rfl (fun K hK=>?_);have q7:=zH h8.out.box 4;simp only[List.getElem_toArray,List.getElem_cons_zero,List.getElem_cons_succ]at q7;have f7:=zA h8.out.box 4;go_simp;refine hK.out _ _ ⟨trivial,fun h=>by simp at h⟩ ?_;clear hK K q7 f7 CM
  try simp only[Act.put,sPa,sPb,sPc]
  refine tT (by kernel_rfl) ?_ _;refine NoPanic.normal ?_;obtain⟨wZ,b6⟩:=Nm (wM.setCell ⟨o,4,none⟩ (.slice sU' (q+1) cU'));have h4:=h8.out.set 4 (.slice sU' (q+1) cU');rw[<-b6]at h4⊢;simp only[sPa,sPb,sPc,l6.out]at h4;have e6:=Kh h4;clear h4 b6 h8;go_wp2;go_roundg (m-(q+1))
  case measure=>have:=d4.out;omega
  exact⟨q+1,sW2,cW2,sU',cU',by omega,by go_num,e6.out⟩
 have r3:m=q:=by have:=d4.out;omega
 subst r3;obtain⟨wo,rfl⟩:=Nm (wr:World);clear hq d2;go_wp2
 go_loopg [14,71] gs.length (fun gh v14 i wr=>∃(q:Nat) (sI:Option Addr) (cI:Nat),gh+q=gs.length/\i=.int .i64 q/\BoxS Q X o 39 w5 w6 [⟨Q,4,.slice (some ⟨gp,0,none⟩) m m,m,bls (List.replicate m false),1⟩,⟨Q,9,.slice sW m cW,m,sZ ((vJ pr la m).take m),1⟩,⟨Q,4,.slice sA m cA,m,bls ((accE fin st el).take m),1⟩,⟨Q,3,.slice sI q cI,q,nats ((imgE gs el).take q),1⟩] #[.int .i64 gs.length,.slice sT m cT,.slice sW m cW,.slice sI q cI,.slice sA m cA,.slice (some ⟨gp,0,none⟩) m m] wr)
 case atStart=>exact⟨0,none,0,by omega,rfl,HS.out⟩
 obtain⟨q,sI,cI,c7,rfl,hS⟩:=hrel;have d4:=Kh c7;have HS:=Kh hS;have d2:=Kh hS.grown;clear c7 hS;by_cases hq:q<gs.length
 ·have m7:(q:Int)<gs.length:=by omega
  obtain⟨ga,gac,h6,h9⟩:=x8.out q hq;have k3:IsT n (gs.getD q []):=i8.out _ (uW hq);obtain⟨g0,i1⟩:=Nm (gs.getD q []);rw[<-i1]at h6 h9 k3;rw[k3.1]at h6 h9;have s5:=zK h6 (zC i9.out d2.out)
  have n1:g0∈el:=by
   have:=b1.out;rw[<-HL.out]at this;rw[i1];exact this.image i8.out hq
  obtain⟨ig,k2⟩:=Nm (el.idxOf g0);have i6:Hid (nats ((imgE gs el).take q)++[.int .i64 ((ig:Nat):Int)]=nats ((imgE gs el).take (q+1))):=Kh (by rw[k2,i1];exact qKZ hq)
  have y2:Hid (∀W:World,w5.grownBy W none->Calls Tryz.prog 63 #[.slice (some ⟨eb,eo,none⟩) m cE,.slice ga n gac] W fun e w'=>e=.returned (.int .i64 ((ig:Nat):Int))/\W.grownBy w' none):=Kh (fun W hg=>by
   have h5:=zC b0.out hg;have b2:=zC i9.out hg;have s6:=h9.row.kept b2 (by simp);refine(eS W.heap.size B W _ _ el g0 ((HE.out.kept h5 (by simp)).mono h5.size) s6).mono ?_;rintro e w' ⟨h1,md,h2⟩;rw[qON n1,<-k2]at h1
   exact⟨h1,by rw[h2];exact zQ W md none⟩)
  have H1:Hid (∀(W:World) (rs:List RowS),BoxS Q X o 39 w5 w6 rs #[.int .i64 gs.length,.slice sT m cT,.slice sW m cW,.slice sI q cI,.slice sA m cA,.slice (some ⟨gp,0,none⟩) m m] W->W.cell? ⟨o,3,none⟩=some (.slice sI q cI)/\W.cell? ⟨b8,3,none⟩=some (.slice (some ⟨eb,eo,none⟩) m cE)):=Kh (fun W rs hS=>⟨(yD hS.box).2.2.2.1,(zZ (zB b4.out hS.grown)).2.2.2.1⟩);clear h6 h9 k3 i1 n1 k2;obtain⟨w7,H2⟩:=Nm wr.drew;have H6:wr.grownBy w7 none:=(by rw[H2];exact zS wr none);have e5:=Kh H2;have d5:=Kh H6;clear H2 H6;go_upto_region 14 with fail;refine wp_region_noPanic ?_;refine yM (G:=wH 9 (fun _=>True) (fun W=>W.cell? ⟨o,3,none⟩=some (.slice sI q cI)/\W.cell? ⟨b8,3,none⟩=some (.slice (some ⟨eb,eo,none⟩) m cE))) (by kernel_rfl) ?_;rw[<-e5.out];have a3:=Kh (HS.out.grow d5.out);have C:Hid (w7.cell? ⟨o,3,none⟩=some (.slice sI q cI)/\w7.cell? ⟨b8,3,none⟩=some (.slice (some ⟨eb,eo,none⟩) m cE)):=Kh (H1.out w7 _ a3.out);refine zO 0 ⟨trivial,fun _=>C.out⟩ ?_;refine yY 1 ⟨trivial,fun _=>C.out⟩ ?_;refine zO 2 ⟨trivial,fun _=>C.out⟩ ?_;refine yY 3 ⟨trivial,fun _=>C.out⟩ ?_;refine zO 4 ⟨trivial,fun _=>C.out⟩ ?_;refine oneG (i:=5) (by kernel_rfl) rfl (fun K hK=>?_);go_simp
  go_at_call 63
  refine(y2.out w7 (zC d2.out d5.out)).mono ?_;rintro e w8 ⟨rfl,g1⟩;have e2:=Kh (a3.out.grow g1);have C8:Hid (w8.cell? ⟨o,3,none⟩=some (.slice sI q cI)/\w8.cell? ⟨b8,3,none⟩=some (.slice (some ⟨eb,eo,none⟩) m cE)):=Kh (H1.out w8 _ e2.out);refine hK.out _ _ ⟨trivial,fun _=>C8.out⟩ ?_;clear hK K C a3 g1
  try simp only[Act.put,sPa,sPb,sPc]
  refine oneG (i:=6) (by kernel_rfl) rfl (fun K hK=>?_);go_simp;have H0:=heap_alloc_new w8 (.cells #[.int .i64 ((ig:Nat):Int)] 3);have H5:=Ga w8 (.cells #[.int .i64 ((ig:Nat):Int)] 3) none;obtain⟨gR,c8⟩:=Nm w8.heap.size;obtain⟨w9,b7⟩:=Nm (w8.alloc (.cells #[.int .i64 ((ig:Nat):Int)] 3));rw[<-c8]at H0⊢;rw[<-b7]at H0 H5⊢;have a2:=Kh (e2.out.grow H5);have C9:Hid (w9.cell? ⟨o,3,none⟩=some (.slice sI q cI)/\w9.cell? ⟨b8,3,none⟩=some (.slice (some ⟨eb,eo,none⟩) m cE)):=Kh (H1.out w9 _ a2.out);refine hK.out _ _ ⟨trivial,fun _=>C9.out⟩ ?_;clear hK K C8 e2 c8 b7 H5
  try simp only[Act.put,sPa,sPb,sPc]
  obtain⟨d0,b5,h3⟩:=a2.out.push;have d3:=Kh h3;have h7:=aH H0;clear h3;refine oneG (i:=7) (by kernel_rfl) rfl (fun K hK=>?_);refine oF rfl (.tmp 76) (.tmp 81) 22 rfl yH.toN 3 _ rfl ⟨_,_,_,_,_,d0,⟨Q,3,.slice sI q cI,q,nats ((imgE gs el).take q),1⟩,1,q+1,_,rfl,rfl,rfl,rfl,h7,?z1,rfl,?z2,?z3,?z4,?_⟩
  case z1=>intro v hv;simp only[List.mem_cons,List.not_mem_nil,or_false]at hv;subst hv;rfl
  case z2=>unfold maxLen;omega
  case z3=>show (q+1)*8<=140737488355328;omega
  case z4=>exact b5
  intro sU' cU' wM c9;have h8:=Kh (d3.out wM 3 ⟨Q,3,.slice sI q cI,q,nats ((imgE gs el).take q),1⟩ (.slice sU' (q+1) cU') (q+1) [.int .i64 ((ig:Nat):Int)] rfl c9);have CM:Hid (wM.cell? ⟨o,3,none⟩=some (.slice sI q cI)/\wM.cell? ⟨b8,3,none⟩=some (.slice (some ⟨eb,eo,none⟩) m cE)):=Kh (H1.out wM _ h8.out);refine hK.out _ _ ⟨trivial,fun _=>CM.out⟩ ?_;clear hK K C9 a2 d0 b5 d3 h7 H0 c9
  try simp only[Act.put,sPa,sPb,sPc]
  refine zO 8 ⟨trivial,fun _=>CM.out⟩ ?_;refine oneG (i:=9) (by kernel_rfl) rfl (fun K hK=>?_);have q7:=zH h8.out.box 3;simp only[List.getElem_toArray,List.getElem_cons_zero,List.getElem_cons_succ]at q7;have f7:=zA h8.out.box 3;go_simp;refine hK.out _ _ ⟨trivial,fun h=>by simp at h⟩ ?_;clear hK K q7 f7 CM
  try simp only[Act.put,sPa,sPb,sPc]
  refine tT (by kernel_rfl) ?_ _;refine NoPanic.normal ?_;obtain⟨wZ,b6⟩:=Nm (wM.setCell ⟨o,3,none⟩ (.slice sU' (q+1) cU'));have h4:=h8.out.set 3 (.slice sU' (q+1) cU');rw[<-b6]at h4⊢;simp only[sPa,sPb,sPc,i6.out]at h4;have e6:=Kh h4;clear h4 b6 h8;go_wp2;go_roundg (gs.length-(q+1))
  case measure=>have:=d4.out;omega
  exact⟨q+1,sU',cU',by omega,by go_num,e6.out⟩
 have r5:q=gs.length:=by have:=d4.out;omega
 subst r5;obtain⟨w9,rfl⟩:=Nm (wr:World)
 have e4:BoxS Q X o 39 w5 w6 [⟨Q,4,.slice (some ⟨gp,0,none⟩) m m,m,bls (List.replicate m false),1⟩,⟨Q,9,.slice sW m cW,m,sZ (vJ pr la m),1⟩,⟨Q,4,.slice sA m cA,m,bls (accE fin st el),1⟩,⟨Q,3,.slice sI gs.length cI,gs.length,nats (imgE gs el),1⟩] #[.int .i64 gs.length,.slice sT m cT,.slice sW m cW,.slice sI gs.length cI,.slice sA m cA,.slice (some ⟨gp,0,none⟩) m m] w9:=by
  have:=HS.out;rw[List.take_of_length_le (by rw[oX];exact Nat.le_refl _),List.take_of_length_le (by rw[jH,HL.out];exact Nat.le_refl _),List.take_of_length_le (by rw[kW];exact Nat.le_refl _)]at this;exact this
 have n7:TMat w9.heap.size w9 (.slice sT m cT) T:=(o4.out.kept e4.kept e4.wk).tmat;have o2:w9.ownsRow Q 3 1 (.slice sI gs.length cI) gs.length (nats (imgE gs el)):=e4.own (r:=⟨Q,3,.slice sI gs.length cI,gs.length,nats (imgE gs el),1⟩) (by simp);have d9:Enm gs n el pr la ri el.length:=by rw[HL.out];exact b1.out.toEnm
 have e9:∀x y,x<m->y<m->(T.getD x []).getD y 0<m:=fun x y hx hy=>by
  have:=(d9.tab i8.out (x:=x) (y:=y) (by rw[HL.out];exact hx) (by rw[HL.out];exact hy)).1;rw[HL.out,<-l8.out]at this;exact this
 have n8:Shape (tabI T):=by
  refine⟨by rw[xK,d1.out];omega,by rw[xK,d1.out];omega,fun x hx=>?_,fun x y hx hy=>?_,fun x y hx hy=>?_⟩
  ·rw[xK,d1.out]at hx⊢
   rw[lM,List.length_map,l8.out,tabE,zN (by simpa using hx)];simp[rowE]
  ·rw[jN];omega
  rw[xK,d1.out]at hx hy⊢;rw[jN];have:=e9 x y hx hy;omega
 have n2:∀g∈imgE gs el,g<(tabI T).length:=fun g hg=>by
  obtain⟨f,hf,rfl⟩:=List.mem_map.1 hg;obtain⟨i,hi,rfl⟩:=List.getElem_of_mem hf;have:=d9.image i8.out hi;rw[zN hi]at this;rw[xK,d1.out,<-HL.out];exact List.idxOf_lt_length_of_mem this
 have y0:=Kh (qAM w9.heap.size w9.heap.size w9 (.slice sT m cT) (.slice sI gs.length cI) (tabI T) (imgE gs el) (Nat.le_refl _) (Nat.le_refl _) n7.mat n8 (Row.of_owns o2) n2);have x2:=Kh e4;obtain⟨c0,c1,c2,c3,c4,c5⟩:=yD e4.box;clear e4 n7 o2 d9 e9 n8 n2 HS d2 hq c0 c2 c4 c5;go_wp2_with fail;refine y0.out.mono ?_;rintro e w7 ⟨mm,n3,n4,⟨sG,sGc,rfl,d7⟩,H6⟩;obtain⟨L,hL⟩:=Nm (mT (metL (tabI T).length mm));rw[<-hL]at d7⊢
 have g7:∀x∈L,x<m:=fun x hx=>by
  rw[hL]at hx;have:=qOG hx;rw[xR,xK,d1.out]at this;exact this
 have A4:L.length<=m:=by
  rw[hL,mT,xR,xK,d1.out];exact Nat.le_trans (List.length_filter_le _ _) (by simp)
 have o5:=Kh (x2.out.add H6 d7 (by decide));obtain⟨x9,y5,x7,x6⟩:=K4 n3 n4 hL g7;clear n3 n4 hL g7 d7 H6 c1 c3;go_wp2
 go_loopg [16,91] L.length (fun gh v16 i wr=>∃(q:Nat),gh+q=L.length/\i=.int .i64 q/\BoxS Q X o 39 w5 w6 [⟨Q,4,.slice (some ⟨gp,0,none⟩) m m,m,bls (kI m (L.take q)),1⟩,⟨Q,9,.slice sW m cW,m,sZ (vJ pr la m),1⟩,⟨Q,4,.slice sA m cA,m,bls (accE fin st el),1⟩,⟨Q,3,.slice sI gs.length cI,gs.length,nats (imgE gs el),1⟩,⟨Q,3,.slice sG L.length sGc,L.length,nats L,1⟩] #[.int .i64 gs.length,.slice sT m cT,.slice sW m cW,.slice sI gs.length cI,.slice sA m cA,.slice (some ⟨gp,0,none⟩) m m] wr)
 case atStart=>exact⟨0,by omega,rfl,o5.out⟩
 obtain⟨q,c7,rfl,hS⟩:=hrel;have d4:=Kh c7;have HS:=Kh hS;clear c7 o5;by_cases hq:q<L.length
 ·have m7:(q:Int)<L.length:=by omega
  have m8:wr.ownsRow Q 3 1 (.slice sG L.length sGc) L.length (nats L):=hS.own (r:=⟨Q,3,.slice sG L.length sGc,L.length,nats L,1⟩) (by simp);obtain⟨lb,rfl,z6,s0,o1⟩:=yZ m8 (by omega);have r8:=o1.nat q hq;obtain⟨x,hx⟩:=Nm (L.getD q 0);have e8:x<m:=(by rw[hx];exact x6.out _ (uW hq));rw[<-hx]at r8;have m9:wr.ownsRow Q 4 1 (.slice (some ⟨gp,0,none⟩) m m) m (bls (kI m (L.take q))):=hS.own (r:=⟨Q,4,.slice (some ⟨gp,0,none⟩) m m,m,bls (kI m (L.take q)),1⟩) (by simp);obtain⟨gp',he,_,_,l5⟩:=yZ m9 (by omega);have he:gp=gp':=by simpa using he
  subst he;have s4:=l5.bool x (by rw[gL];exact e8);have z8:=l5.frozen x;have j3:(x:Int)<m:=(by omega);have r9:sGc<=9223372036854775807:=by unfold maxLen at s0;omega
  obtain⟨c0,c1,c2,c3,c4,c5⟩:=yD hS.box
  have x4:Hid (kI m (L.take (q+1))=(kI m (L.take q)).set x true):=Kh (by
   rw[yB (d:=0) hq,qGZ,hx])
  have l1:=hS.put (j:=0) rfl e8 (.bool true);rw[qEX,<-x4.out]at l1;have x0:=Kh l1;clear hS m8 o1 hx m9 l5 l1 c0 c1 c2 c3 c4;go_wp2;go_roundg (L.length-(q+1))
  case measure=>have:=d4.out;omega
  exact⟨q+1,by omega,by go_num,x0.out⟩
 have r4:q=L.length:=by have:=d4.out;omega
 subst r4;have h0:=zB m2.out hS.grown (by have:=o9.out;have:=p6.out;simp);obtain⟨c0,c1,c2,c3,c4,c5⟩:=yD hS.box;obtain⟨p0,p1,p2,p3,p4,p5⟩:=yD h0;have f0:=zA h0 0;have f1:=zA h0 1;have f2:=zA h0 2;have f3:=zA h0 3;have f4:=zA h0 4;have f5:=zA h0 5;have g8:=Kh h0;have A2:P≠o:=(by have:=o9.out;have:=p6.out;have:=HQ.out;omega);clear hS h0;go_wp2;refine bodyPost_ret (v:=.tuple #[.agg #[.int .i64 gs.length,.slice sT m cT,.slice sW m cW,.slice sI gs.length cI,.slice sA m cA,.slice (some ⟨gp,0,none⟩) m m],.int .i64 0]) (by simp[results,Tryz.results33,go_sem,p0,p1,p2,p3,p4,p5]) rfl ?_;obtain⟨m4,H4⟩:=uM g8.out (.int .i64 gs.length) (.slice sT m cT) (.slice sW m cW) (.slice sI gs.length cI) (.slice sA m cA) (.slice (some ⟨gp,0,none⟩) m m);have h4:=HS.out;have s1:xV X wr _:=xV.of_grown h4.mem.lt H4 (fun j e hx=>by have e:P=j:=Oj e;subst e;exact t5.out hx);have oW:wr.ownsRow Q 9 1 (.slice sW m cW) m (sZ (vJ pr la m)):=h4.own (r:=⟨Q,9,.slice sW m cW,m,sZ (vJ pr la m),1⟩) (by simp);have oA:wr.ownsRow Q 4 1 (.slice sA m cA) m (bls (accE fin st el)):=h4.own (r:=⟨Q,4,.slice sA m cA,m,bls (accE fin st el),1⟩) (by simp);have oI:wr.ownsRow Q 3 1 (.slice sI gs.length cI) gs.length (nats (imgE gs el)):=h4.own (r:=⟨Q,3,.slice sI gs.length cI,gs.length,nats (imgE gs el),1⟩) (by simp);have oG:wr.ownsRow Q 4 1 (.slice (some ⟨gp,0,none⟩) m m) m (bls (kI m (L.take L.length))):=h4.own (r:=⟨Q,4,.slice (some ⟨gp,0,none⟩) m m,m,bls (kI m (L.take L.length)),1⟩) (by simp);rw[List.take_length]at oG;refine .inr ⟨⟨gs.length,T,vJ pr la m,imgE gs el,accE fin st el,kI m L⟩,_,rfl,⟨el,pr,la,ri,mm,by rw[HL.out];exact b1.out,by rw[HL.out];omega,rfl,by rw[HL.out];exact l8.out,by rw[HL.out],rfl,rfl,x9.out,y5.out,?_⟩,⟨_,_,_,_,_,rfl,?_,?_,?_,?_,?_⟩,?_⟩
 ·rw[HL.out,x7.out,xK,d1.out]
 ·exact(o4.out.kept (h4.kept.trans s1) (Nat.le_trans h4.wk H4.size)).tmatT
 ·exact RowT.of_owns (oW.kept H4 (.inr (zV oW g8.out (by decide))))
 ·exact RowT.of_owns (oI.kept H4 (.inr (zV oI g8.out (by decide))))
 ·exact RowT.of_owns (oA.kept H4 (.inr (zV oA g8.out (by decide))))
 ·exact RowT.of_owns (oG.kept H4 (.inr (zV oG g8.out (by decide))))
 exact yG (zC i9.out h4.grown) H4 (by show _<=P;have:=i7.out;omega)
open Go.Maps
section
variable {w0 w w':World} {B o n k m d s ub:Nat} {sG:Option Addr} {cG:Nat} {hsG:List Value} {gs els right:List (List Nat)} {pre las beh:List Int} {sgl:List Nat} {tl:List RowS}
theorem RunS.read (h:RunS w0 B o n k m d s ub sG cG hsG gs els pre las right beh sgl tl w):∃(u mb cE cP cL cR cU cW cB cS:Nat) (sE sP sL sR sU sW sB sS:Option Addr),w.heap[o]?=some (.cells #[.int .i64 (n:Int),.bool true,.slice sG k cG,.slice sE m cE,.slice sP m cP,.slice sL m cL,.slice sR d cR,.slice sU u cU,.int .i64 (d:Int),.map (some mb),.slice sW m cW,.slice sB m cB,.slice sS s cS] 156 (0,0))/\mK w.heap.size w (.slice sE m cE) els/\RowT w.heap.size 3 w (.slice sP m cP) (ints pre)/\RowT w.heap.size 3 w (.slice sL m cL) (ints las)/\mK w.heap.size w (.slice sR d cR) right:=by
 obtain⟨X,mb,u,us,h1,h0,ws,sE,sP,sL,sR,sU,sW,sB,sS,cE,cP,cL,cR,cU,cW,cB,cS,hB,hE,hR,hG,⟨c,hM⟩,h2,h3,hl,h4,hw,hu⟩:=h;have oE:=hB.own (r:=⟨B,22,.slice sE m cE,m,h1,1⟩) (by simp);have oP:=hB.own (r:=⟨B,3,.slice sP m cP,m,ints pre,1⟩) (by simp);have oL:=hB.own (r:=⟨B,3,.slice sL m cL,m,ints las,1⟩) (by simp);have oR:=hB.own (r:=⟨B,22,.slice sR d cR,d,h0,1⟩) (by simp);exact⟨u,mb,cE,cP,cL,cR,cU,cW,cB,cS,sE,sP,sL,sR,sU,sW,sB,sS,hB.box,⟨h1,RowT.of_owns oE,hE.rowsT⟩,RowT.of_owns oP,RowT.of_owns oL,⟨h0,RowT.of_owns oR,hR.rowsT⟩⟩
end
def qTS (gs:List (List Nat))(n:Nat)(w:World)(e:Ending)(w':World):Prop :=
 (e=.returned (.tuple #[.agg #[.int .i64 0,.bool false,.slice none 0 0,.slice none 0 0,.slice none 0 0,.slice none 0 0,.slice none 0 0,.slice none 0 0,.int .i64 0],.int .i64 3])/\mE gs (yO gs n gs.length) n/\w.grownBy w' none) \/
 ∃(el:List (List Nat)) (pr la:List Int) (ri:List (List Nat)) (m u cG cE cP cL cR cU:Nat) (sG sE sP sL sR sU:Option Addr),
  e=.returned (.tuple #[.agg #[.int .i64 n,.bool true,.slice sG gs.length cG,.slice sE m cE,.slice sP m cP,.slice sL m cL,.slice sR m cR,.slice sU u cU,.int .i64 m],.int .i64 0])/\wI gs (yO gs n gs.length) m=((el,pr,la),ri)/\(∀f∈el,IsT n f)/\el.length=m/\m<=2000 /\
  mK w'.heap.size w' (.slice sE m cE) el/\RowT w'.heap.size 3 w' (.slice sP m cP) (ints pr)/\RowT w'.heap.size 3 w' (.slice sL m cL) (ints la)/\mK w'.heap.size w' (.slice sR m cR) ri/\w.grownBy w' none
theorem qHB (B:Nat)(w:World)(v0:Value)(gs:List (List Nat))(n:Nat)(hB:B<=w.heap.size)(h:TMat B w v0 gs)(a6:∀g∈gs,IsT n g)(h1:1<=n)(a5:n<=32)(a7:1<=gs.length)(a9:gs.length<=6):Calls Tryz.prog 78 #[v0,.bool true] w (qTS gs n w):=by
 obtain⟨w1,H0⟩:=Nm (w.alloc (.cells #[.int .i64 0,.bool false,.slice none 0 0,.slice none 0 0,.slice none 0 0,.slice none 0 0,.slice none 0 0,.slice none 0 0,.int .i64 0] 106));have H1:w.grownBy w1 none:=by rw[H0];exact Ga w _ none
 have H2:=heap_alloc_new w (.cells #[.int .i64 0,.bool false,.slice none 0 0,.slice none 0 0,.slice none 0 0,.slice none 0 0,.slice none 0 0,.slice none 0 0,.int .i64 0] 106);rw[<-H0]at H2;have a0:=Kh (qHC B w1 v0 gs n (Nat.le_trans hB H1.size) (h.kept H1 (by simp)) a6 h1 a5 a7 a9);obtain⟨P,hP⟩:=Nm w.heap.size;obtain⟨k,hk⟩:=Nm gs.length;obtain⟨a1,d0,b7,d6,HK⟩:=K5 hP H0 H1 a6 hk;rw[<-hP]at H2;have H4:=Kh H2;rw[<-hk]at a0 a7 a9;clear H0 H1 H2 a6 h hk;go_enter Tryz.func78,Tryz.ntmps78;go_upto_region 1 with fail;rw[<-d0.out,<-a1.out];clear hP;go_wp2_with fail;refine a0.out.mono ?_;rintro e w2 ⟨o,m0,cG,sG,b9,els0,pre0,las0,beh0,sgl0,rfl,h2,h6,H6⟩;have e5:=Kh (zB H4.out H6);obtain⟨b4,b5,e3⟩:=K3 h2 h6 H6;have e0:P<w1.heap.size:=zR H4.out;clear h2 h6 H6 a0;go_wp2
 go_loopg [8] 2000 (fun gh a8 wr=>∃(d m ub:Nat) (els right:List (List Nat)) (pre las beh:List Int) (sgl:List Nat),gh+d=2000/\ub<=6+6*d/\RunS w1 w1.heap.size o n k m d k ub sG cG b9 gs els pre las right beh sgl [] wr/\PEn gs n k d m els pre las right beh sgl)
 case atStart=>exact⟨0,m0,6,_,_,_,_,_,_,rfl,Nat.le_refl _,b4.out,b5.out⟩
 clear b4 b5;obtain⟨d,m,ub,els,right,pre,las,beh,sgl,b2,d8,h2,h6⟩:=hrel;have d9:=h6.dle;have c9:=h6.mle;obtain⟨b6,HR,HP⟩:=K3 b2 h2 h6;have e2:=Kh h2.facts.1;have h7:=Kh (qND h2 (by omega));clear h2 h6 b2;by_cases hd:d=m
 ·subst hd
  rw[decide_eq_true rfl]at h7;go_wp2_with fail;refine h7.out.mono ?_;rintro e w3 ⟨rfl,q,rfl⟩;have H5:=HR.out.grow (zQ wr q none);have h4:=H5.facts.1;obtain⟨u,mb,cE,cP,cL,cR,cU,cW,cB,cS,sE,sP,sL,sR,sU,sW,sB,sS,h3,hE,H8,H9,H7⟩:=H5.read;obtain⟨w4,a4⟩:=Nm (wr.drewN q);rw[<-a4]at h4 h3 hE H8 H9 H7⊢;have h0:=zB H4.out h4;have H3:=Kh h0;have a3:=Kh (zC b7.out h4);obtain⟨HE,d3,d5,d1,e4⟩:=K5 hE H8 H9 H7 h3;have c0:=zH h3 0;have c1:=zH h3 1;have c2:=zH h3 2;have c3:=zH h3 3;have c4:=zH h3 4;have c5:=zH h3 5;have c6:=zH h3 6;have c7:=zH h3 7;have c8:=zH h3 8;simp only[List.getElem_toArray,List.getElem_cons_zero,List.getElem_cons_succ]at c0 c1 c2 c3 c4 c5 c6 c7 c8;obtain⟨p0,p1,p2,p3,p4,p5,p6,p7,p8⟩:=zZ h0;have f0:=zA h0 0;have f1:=zA h0 1;have f2:=zA h0 2;have f3:=zA h0 3;have f4:=zA h0 4;have f5:=zA h0 5;have f6:=zA h0 6;have f7:=zA h0 7;have f8:=zA h0 8;clear H5 h4 h3 hE H8 H9 H7 a4 h0 h7 HR;go_wp2;refine bodyPost_ret (v:=.tuple #[.agg #[.int .i64 n,.bool true,.slice sG k cG,.slice sE d cE,.slice sP d cP,.slice sL d cL,.slice sR d cR,.slice sU u cU,.int .i64 d],.int .i64 0]) (by simp[results,Tryz.results78,go_sem,p0,p1,p2,p3,p4,p5,p6,p7,p8]) rfl ?_;obtain⟨b8,h5⟩:=rZ H3.out (.int .i64 n) (.bool true) (.slice sG k cG) (.slice sE d cE) (.slice sP d cP) (.slice sL d cL) (.slice sR d cR) (.slice sU u cU) (.int .i64 d)
  have h8:∀e',e'≠106->∀j,(some P:Option Nat)=some j->w4.heap.size<=j\/xG w4 e' j:=fun e' he j hj=>by
   have hj:=Oj hj;subst hj;exact .inr ⟨_,_,_,H3.out,fun e1=>he e1.symm⟩
  have hz:=h5.size;exact .inr ⟨els,pre,las,right,d,u,cG,cE,cP,cL,cR,cU,sG,sE,sP,sL,sR,sU,by rw[HK.out],by rw[<-HK.out];exact HP.out.proc,HP.out.it,HP.out.len,c9,(HE.out.kept h5 (h8 _ (by decide)) (h8 _ (by decide))).mono hz,(d3.out.kept h5 (h8 _ (by decide))).mono hz,(d5.out.kept h5 (h8 _ (by decide))).mono hz,(d1.out.kept h5 (h8 _ (by decide)) (h8 _ (by decide))).mono hz,yG a3.out h5 (by show _<=P;have:=a1.out;omega)⟩
 rw[decide_eq_false hd]at h7;go_wp2_with fail;refine h7.out.mono ?_;rintro e w3 ⟨rfl,q,rfl⟩;have a2:=Kh (qJQ (HR.out.grow (zQ wr q none)) HP.out (by omega) d6.out h1 a5 a7 a9 (by omega));go_wp2_with fail;refine a2.out.mono ?_;rintro e w4 (⟨rfl,b3,h9⟩|⟨m',els',pre',las',beh',row,rfl,b0,b1,h9⟩)
 ·have h0:=zB H4.out h9
  have H3:=Kh h0;have a3:=Kh (zC b7.out h9);have d7:=Kh b3;obtain⟨p0,p1,p2,p3,p4,p5,p6,p7,p8⟩:=zZ h0;have f0:=zA h0 0;have f1:=zA h0 1;have f2:=zA h0 2;have f3:=zA h0 3;have f4:=zA h0 4;have f5:=zA h0 5;have f6:=zA h0 6;have f7:=zA h0 7;have f8:=zA h0 8;clear b3 h9 h0 a2 HR h7;go_wp2;refine bodyPost_ret (v:=.tuple #[.agg #[.int .i64 0,.bool false,.slice none 0 0,.slice none 0 0,.slice none 0 0,.slice none 0 0,.slice none 0 0,.slice none 0 0,.int .i64 0],.int .i64 3]) (by simp[results,Tryz.results78,go_sem,p0,p1,p2,p3,p4,p5,p6,p7,p8]) rfl ?_;obtain⟨b8,h5⟩:=rZ H3.out (.int .i64 0) (.bool false) (.slice none 0 0) (.slice none 0 0) (.slice none 0 0) (.slice none 0 0) (.slice none 0 0) (.slice none 0 0) (.int .i64 0);exact .inl ⟨rfl,by rw[<-HK.out];exact d7.out,yG a3.out h5 (by show _<=P;have:=a1.out;omega)⟩
 have d2:=Kh b0;have d4:=Kh b1;clear b0 b1 h9 a2 HR h7;go_wp2;go_roundg (2000-(d+1))
 case measure=>have:=b6.out;omega
 exact⟨d+1,m',ub+6,els',right++[row],pre',las',beh',sgl,by have:=b6.out;omega,by omega,d2.out,d4.out⟩
inductive SysG (w0 we:World)(B o gb k a q r:Nat)(done:List (List Nat))(cur:List Nat)(w:World):Prop
 | mk (X:Nat->Prop) (hsD:List Value) (sR:Option Addr) (cR:Nat) (hB:BoxS B X o 78 w0 w (⟨B,22,.slice (some ⟨gb,0,none⟩) k k,k,hsD++.slice sR q cR::List.replicate r (.slice none 0 0),1⟩::⟨B,3,.slice sR q cR,q,nats cur,1⟩::[]) #[.slice (some ⟨gb,0,none⟩) k k,.slice none 0 0,.int .i64 ((0:Nat):Int)] w) (hD:xU X 3 nats w hsD done) (hl:hsD.length=a/\done.length=a/\a+1+r=k/\cur.length=q) (hG:we.grownBy w (some o)) (hgb:we.heap.size<=gb) (hB0:we.heap.size<=B)
theorem qQZ {Q:Exit->Act->World->Prop}{v1 v2 v4 v5 v8 v9 i4 i5 i6 i7 i8 i9 g0 g1 g2 g3 g4 g5 g6 g7 g8 g9 f0 f2 f3 f4 f5 f6 f7 f8 f9 e0 e1 e2 e3 e4 e5 l6 l7 l8 l9 k0 k1 k2 k3 k4 k5 k6 k7 k8 k9 j0 j1 j2 j3 j4 j5 j6 j7 j8 j9 i0 i1 i2 i3 e6 e7 e8 e9 d0 d2 d6 d7 d8 d9 c0 c1 c2 c6 c7 c8 c9 b0 b1 b2 b3 b4 b5 b6 b7 b8 b9 a0 a1 a2 a3 a7 a8:Value}{w0 we w:World}{B o gb k a q r n mx nb no nc rb ro rc y:Nat}{done:List (List Nat)}{a9:List Nat}(h:SysG w0 we B o gb k a q r done a9 w)(l3:k<=6)(hq:q<n)(hn:n<=32)(l5:y<32)(c3:w.cell? ⟨mx,3,none⟩=some (.slice (some ⟨nb,no,none⟩) n nc))(c4:w.cell? ⟨nb,no+q,none⟩=some (.slice (some ⟨rb,ro,none⟩) k rc))(c5:w.cell? ⟨rb,ro+a,none⟩=some (.int .i64 (y:Int)))(a4:n<=nc/\nc<=maxLen)(a5:k<=rc/\rc<=maxLen)(l4:mx<we.heap.size/\nb<we.heap.size/\rb<we.heap.size)(a6:∀(z41 z42 z43 z44 z45 z46 z47 z48 z49 z50 z51 z52 z53 z54 z55 z56 z57 z58 z59 z60 z61 z62 z63 z64 z65 z66 z67 z68:Value) (w':World),SysG w0 we B o gb k a (q+1) r done (a9++[y]) w'->Q .normal ⟨((Value.pointer (some ⟨o,0,none⟩))::v1::v2::(Value.pointer (some ⟨mx,0,none⟩))::v4::v5::(Value.int .i64 (a:Int))::(Value.int .i64 (q:Int))::v8::v9::i4::i5::i6::i7::i8::i9::g0::g1::g2::g3::g4::g5::g6::g7::g8::g9::f0::f2::f3::f4::f5::f6::f7::f8::f9::e0::e1::e2::e3::e4::e5::z41::z42::z43::z44::z45::z46::z47::z48::z49::z50::z51::z52::z53::z54::z55::z56::z57::z58::z59::z60::z61::z62::z63::z64::z65::z66::z67::z68::e6::e7::e8::e9::d0::d2::d6::d7::d8::d9::c0::c1::c2::c6::c7::c8::c9::b0::b1::b2::b3::b4::b5::b6::b7::b8::b9::a0::a1::a2::a3::a7::a8::[]).toArray,[]⟩ w'):Code.wp Tryz.prog (reg Tryz.f49 12) Q ⟨((Value.pointer (some ⟨o,0,none⟩))::v1::v2::(Value.pointer (some ⟨mx,0,none⟩))::v4::v5::(Value.int .i64 (a:Int))::(Value.int .i64 (q:Int))::v8::v9::i4::i5::i6::i7::i8::i9::g0::g1::g2::g3::g4::g5::g6::g7::g8::g9::f0::f2::f3::f4::f5::f6::f7::f8::f9::e0::e1::e2::e3::e4::e5::l6::l7::l8::l9::k0::k1::k2::k3::k4::k5::k6::k7::k8::k9::j0::j1::j2::j3::j4::j5::j6::j7::j8::j9::i0::i1::i2::i3::e6::e7::e8::e9::d0::d2::d6::d7::d8::d9::c0::c1::c2::c6::c7::c8::c9::b0::b1::b2::b3::b4::b5::b6::b7::b8::b9::a0::a1::a2::a3::a7::a8::[]).toArray,[]⟩ w:=by
 obtain⟨X,h2,sR,cR,hB,hD,⟨H7,n2,n1,n0⟩,hG,n3,m3⟩:=h;have n5:a<k:=by omega
 have H5:=hB.own (r:=⟨B,22,.slice (some ⟨gb,0,none⟩) k k,k,h2++.slice sR q cR::List.replicate r (.slice none 0 0),1⟩) (by simp);simp only at H5;have H2:=Arr.of_owns H5;have h1:∀W:World,w.grownBy W none->W.cell? ⟨gb,a,none⟩=some (.slice sR q cR):=fun W hg=>zK (pJ H2 (by rw[List.getElem?_append_right (by omega),H7,Nat.sub_self];rfl)) hg
 have o3:gb≠o:=fun e=>by
  obtain⟨_,_,hb,_⟩:=H2;have:=hB.box;rw[<-e,hb]at this;simp at this
 obtain⟨HS,HD,HG,o0⟩:=K4 hB hD hG H2
 have m5:Hid (∀W:World,w.grownBy W none->W.cell? ⟨o,0,none⟩=some (.slice (some ⟨gb,0,none⟩) k k)/\W.cell? ⟨gb,a,none⟩=some (.slice sR q cR)/\W.cell? ⟨o,2,none⟩=some (.int .i64 ((0:Nat):Int))/\W.cell? ⟨mx,3,none⟩=some (.slice (some ⟨nb,no,none⟩) n nc)/\W.cell? ⟨nb,no+q,none⟩=some (.slice (some ⟨rb,ro,none⟩) k rc)/\W.cell? ⟨rb,ro+a,none⟩=some (.int .i64 (y:Int))):=Kh (fun W hg=>by
  have hb:=(HS.out.grow hg).box;have q0:=zH hb 0;have q2:=zH hb 2;simp only[List.getElem_toArray,List.getElem_cons_zero,List.getElem_cons_succ]at q0 q2
  exact⟨q0,h1 W hg,q2,zK c3 hg,zK c4 hg,zK c5 hg⟩)
 have n4:(a:Int)<k:=by omega
 have o2:(q:Int)<n:=by omega
 have m9:=a4.1;have m7:=a5.1;have m8:nc<=9223372036854775807:=by have:=a4.2;unfold maxLen at this;omega
 have m6:rc<=9223372036854775807:=by have:=a5.2;unfold maxLen at this;omega
 clear hB hD hG H5 H2 h1 c3 c4 c5 a4 a5;have o1:IntKind.i64.wrap (y:Int)=y:=xJ (by omega)
 conv=>arg 2;whnf
 obtain⟨w7,H3⟩:=Nm w.drew;have m2:w.grownBy w7 none:=by rw[H3];exact zS w none
 have n7:=Kh H3;have l0:=Kh m2;clear H3 m2;refine wp_region_noPanic ?_;refine yM (G:=wH 28 (fun _=>True) (fun W=>W.cell? ⟨o,0,none⟩=some (.slice (some ⟨gb,0,none⟩) k k)/\W.cell? ⟨gb,a,none⟩=some (.slice sR q cR)/\W.cell? ⟨o,2,none⟩=some (.int .i64 ((0:Nat):Int))/\W.cell? ⟨mx,3,none⟩=some (.slice (some ⟨nb,no,none⟩) n nc)/\W.cell? ⟨nb,no+q,none⟩=some (.slice (some ⟨rb,ro,none⟩) k rc)/\W.cell? ⟨rb,ro+a,none⟩=some (.int .i64 (y:Int)))) (by kernel_rfl) ?_;rw[<-n7.out];have m4:Hid (BoxS B X o 78 w0 w (⟨B,22,.slice (some ⟨gb,0,none⟩) k k,k,h2++.slice sR q cR::List.replicate r (.slice none 0 0),1⟩::⟨B,3,.slice sR q cR,q,nats a9,1⟩::[]) #[.slice (some ⟨gb,0,none⟩) k k,.slice none 0 0,.int .i64 ((0:Nat):Int)] w7):=Kh (HS.out.grow l0.out);have C:=Kh (m5.out w7 l0.out);refine zO 0 ⟨trivial,fun _=>C.out⟩ ?_;refine zO 1 ⟨trivial,fun _=>C.out⟩ ?_;refine zO 2 ⟨trivial,fun _=>C.out⟩ ?_;refine yY 3 ⟨trivial,fun _=>C.out⟩ ?_;refine zO 4 ⟨trivial,fun _=>C.out⟩ ?_;refine zO 5 ⟨trivial,fun _=>C.out⟩ ?_;refine zO 6 ⟨trivial,fun _=>C.out⟩ ?_;refine zO 7 ⟨trivial,fun _=>C.out⟩ ?_;refine yY 8 ⟨trivial,fun _=>C.out⟩ ?_;refine zO 9 ⟨trivial,fun _=>C.out⟩ ?_;refine zO 10 ⟨trivial,fun _=>C.out⟩ ?_;refine yY 11 ⟨trivial,fun _=>C.out⟩ ?_;refine zO 12 ⟨trivial,fun _=>C.out⟩ ?_;refine zO 13 ⟨trivial,fun _=>C.out⟩ ?_;refine zO 14 ⟨trivial,fun _=>C.out⟩ ?_;refine yY 15 ⟨trivial,fun _=>C.out⟩ ?_;refine zO 16 ⟨trivial,fun _=>C.out⟩ ?_;refine yY 17 ⟨trivial,fun _=>C.out⟩ ?_;refine zO 18 ⟨trivial,fun _=>C.out⟩ ?_;refine zO 19 ⟨trivial,fun _=>C.out⟩ ?_;refine yY 20 ⟨trivial,fun _=>C.out⟩ ?_;refine zO 21 ⟨trivial,fun _=>C.out⟩ ?_;refine zO 22 ⟨trivial,fun _=>C.out⟩ ?_;refine yY 23 ⟨trivial,fun _=>C.out⟩ ?_;refine zO 24 ⟨trivial,fun _=>C.out⟩ ?_;refine oneG (i:=25) (by kernel_rfl) rfl (fun K hK=>?_);go_simp;have H0:=heap_alloc_new w7 (.cells #[Value.int .i64 (y:Int)] 3);have H1:=Ga w7 (.cells #[Value.int .i64 (y:Int)] 3) none;obtain⟨gR,m1⟩:=Nm w7.heap.size;obtain⟨w9,l2⟩:=Nm (w7.alloc (.cells #[Value.int .i64 (y:Int)] 3));rw[<-m1]at H0⊢;rw[<-l2]at H0 H1⊢;have h7:Hid (BoxS B X o 78 w0 w (⟨B,22,.slice (some ⟨gb,0,none⟩) k k,k,h2++.slice sR q cR::List.replicate r (.slice none 0 0),1⟩::⟨B,3,.slice sR q cR,q,nats a9,1⟩::[]) #[.slice (some ⟨gb,0,none⟩) k k,.slice none 0 0,.int .i64 ((0:Nat):Int)] w9):=Kh (m4.out.grow H1);have H9:=Kh (zC l0.out H1);have C9:=Kh (m5.out w9 H9.out);refine hK.out _ _ ⟨trivial,fun _=>C9.out⟩ ?_;clear hK K C m1 l2 H1
 try simp only[Act.put,sPa,sPb,sPc]
 have h8:=h7.out.own (r:=⟨B,3,.slice sR q cR,q,nats a9,1⟩) (by simp);have l1:=Nat.le_trans h7.out.base h7.out.wk;have h3:=o0.out.kept H9.out (by simp);refine oneG (i:=26) (by kernel_rfl) rfl (fun K hK=>?_);refine qC rfl (.tmp 52) (.tmp 66) 22 rfl yH.toN B (.slice sR q cR) q (nats a9) rfl h8 [.int .i64 (y:Int)] gR rfl (0,0) rfl H0 ?z1 ?z2 ?z3 l1 ?_
 case z1=>intro v hv;simp only[List.mem_cons,List.not_mem_nil,or_false]at hv;subst hv;rfl
 case z2=>unfold maxLen;omega
 case z3=>show (q+1)*8<=140737488355328;omega
 intro sN cN wM h5 h6 m0;have H8:Hid (BoxS B X o 78 w0 w (⟨B,22,.slice (some ⟨gb,0,none⟩) k k,k,h2++.slice sR q cR::List.replicate r (.slice none 0 0),1⟩::⟨B,3,.slice sN (q+1) cN,(q+1),nats a9++[.int .i64 (y:Int)],1⟩::[]) #[.slice (some ⟨gb,0,none⟩) k k,.slice none 0 0,.int .i64 ((0:Nat):Int)] wM):=Kh (h7.out.appAt (j:=1) rfl h5 h6 m0)
 have H6:(Value.slice sR q cR).ownBlock≠some gb:=fun e=>by
  obtain⟨_,_,hb,_⟩:=h3;exact zV h8 hb (by show (3:Nat)≠22;decide) e
 have h0:∀j,(Value.slice sR q cR).ownBlock=some j->we.heap.size<=j:=fun j hj=>Nat.le_trans m3 (h8.lt j hj).1;have n8:Hid (we.grownBy wM (some o)):=Kh (zC (zC HG.out H9.out) h6 h0);have n9:=Kh (h3.kept h6 (fun e=>H6 e))
 have CM:Hid (wM.cell? ⟨o,0,none⟩=some (.slice (some ⟨gb,0,none⟩) k k)/\wM.cell? ⟨gb,a,none⟩=some (.slice sR q cR)/\wM.cell? ⟨o,2,none⟩=some (.int .i64 ((0:Nat):Int))/\wM.cell? ⟨mx,3,none⟩=some (.slice (some ⟨nb,no,none⟩) n nc)/\wM.cell? ⟨nb,no+q,none⟩=some (.slice (some ⟨rb,ro,none⟩) k rc)/\wM.cell? ⟨rb,ro+a,none⟩=some (.int .i64 (y:Int))):=Kh (by
  have q0:=zH H8.out.box 0;have q2:=zH H8.out.box 2;simp only[List.getElem_toArray,List.getElem_cons_zero,List.getElem_cons_succ]at q0 q2;obtain⟨_,d1,_,d3,d4,d5⟩:=C9.out;have far:∀(b i:Nat) (u:Value),(∀j,(Value.slice sR q cR).ownBlock=some j->j≠b)->w9.cell? ⟨b,i,none⟩=some u->wM.cell? ⟨b,i,none⟩=some u:=fun b i u hb hc=>(World.cell?_of_block (h6.block b (World.block_lt_of_cell? _ _ hc) (fun e=>hb b e.symm rfl))).trans hc
  exact⟨q0,far gb a _ (fun j hj e=>H6 (e ▸ hj)) d1,q2,far mx 3 _ (fun j hj e=>by have:=h0 j hj;omega) d3,far nb (no+q) _ (fun j hj e=>by have:=h0 j hj;omega) d4,far rb (ro+a) _ (fun j hj e=>by have:=h0 j hj;omega) d5⟩)
 refine hK.out _ _ ⟨trivial,fun _=>CM.out⟩ ?_;clear hK K C9 h7 m4 h5 h6 m0 H0 h8 l1 H6 h0 h3
 try simp only[Act.put,sPa,sPb,sPc]
 refine zO 27 ⟨trivial,fun _=>CM.out⟩ ?_;refine oneG (i:=28) (by kernel_rfl) rfl (fun K hK=>?_);have q1:=CM.out.2.1;have f1:=n9.out.frozen a;go_simp;refine hK.out _ _ ⟨trivial,fun h=>by simp at h⟩ ?_;clear hK K q1 f1 CM
 try simp only[Act.put,sPa,sPb,sPc]
 refine tT (by kernel_rfl) ?_ _;refine NoPanic.normal ?_;have h4:=H8.out.put (j:=0) rfl n5 (.slice sN (q+1) cN);have n6:we.grownBy (wM.setCell ⟨gb,a,none⟩ (.slice sN (q+1) cN)) (some o):=yG n8.out (zF wM ⟨gb,a,none⟩ _) (by show _<=gb;omega)
 have H4:(h2++Value.slice sR q cR::List.replicate r (Value.slice none 0 0)).set a (.slice sN (q+1) cN)=h2++Value.slice sN (q+1) cN::List.replicate r (Value.slice none 0 0):=by
  rw[List.set_append_right _ _ (by omega),H7,Nat.sub_self];rfl
 refine a6 _ _ _ _ _ _ _ _ _ _ _ _ _ _ _ _ _ _ _ _ _ _ _ _ _ _ _ _  _ ⟨X,h2,sN,cN,?_,HD.out.kept h4.kept h4.wk,⟨H7,n2,n1,by simp[n0]⟩,n6,n3,m3⟩;have h9:=h4.rebase;simp only[List.set_cons_zero]at h9;rw[H4,show nats a9++[.int .i64 (y:Int)]=nats (a9++[y]) by simp[nats]]at h9;exact h9
theorem qLJ:ElemN Tryz.prog 76 128 3 (.agg #[.int .i64 0,.slice none 0 0,.int .i64 0]) 40:=⟨by kernel_rfl,by kernel_rfl,by rfl,by decide⟩
inductive SysF (w0 we:World)(B o gb k:Nat)(gs:List (List Nat))(w:World):Prop
 | mk (X:Nat->Prop) (hsD:List Value) (hB:BoxS B X o 78 w0 w (⟨B,22,.slice (some ⟨gb,0,none⟩) k k,k,hsD,1⟩::[]) #[.slice (some ⟨gb,0,none⟩) k k,.slice none 0 0,.int .i64 ((0:Nat):Int)] w) (hD:xU X 3 nats w hsD gs) (hl:hsD.length=k) (hG:we.grownBy w (some o)) (hB0:we.heap.size<=B)
inductive SysP (w0 we:World)(B o gb k st:Nat)(fA:Option Addr)(fN fC:Nat)(gs:List (List Nat))(w:World):Prop
 | mk (X:Nat->Prop) (hsD:List Value) (sN:Option Addr) (cN:Nat) (hB:BoxS B X o 78 w0 w (⟨B,22,.slice (some ⟨gb,0,none⟩) k k,k,hsD,1⟩::⟨B,128,.slice sN 1 cN,1,[Value.int .i64 (st:Int),.slice fA fN fC,.int .i64 ((0:Nat):Int)],3⟩::[]) #[.slice (some ⟨gb,0,none⟩) k k,.slice sN 1 cN,.int .i64 ((0:Nat):Int)] w) (hD:xU X 3 nats w hsD gs) (hl:hsD.length=k) (hG:we.grownBy w (some o)) (hB0:we.heap.size<=B)
theorem qRA {Q:Exit->Act->World->Prop}{v1 v2 v4 v5 v6 v7 v8 v9 i7 i8 i9 g0 g1 g2 g3 g4 g5 g6 g7 g8 g9 f0 f2 f3 f4 f5 f6 f7 f8 f9 e0 e1 e2 e3 e4 e5 e6 e7 e8 e9 d0 d1 d2 d3 d4 d5 d6 d7 d8 d9 c0 c3 c4 c5 c6 c7 c8 c9 b0 b1 b2 b3 b4 b5 b6 b7 b8 b9 a0 k4 k5 k6 k7 k8 k9 j0 j1 j2 j3 j4 j5 j6 j7 j8 j9 i0 i1 i2 i3 i4 i5 i6 a1 a2 a3 a4 a5 a6 a8 a9:Value}{w0 we w:World}{B o gb k mx st fN fC:Nat}{fA:Option Addr}{gs:List (List Nat)}(h:SysF w0 we B o gb k gs w)(c1:w.cell? ⟨mx,1,none⟩=some (.int .i64 (st:Int)))(c2:w.cell? ⟨mx,2,none⟩=some (.slice fA fN fC))(k3:st<32)(k2:mx<we.heap.size)(a7:∀(z71 z72 z73 z74 z75 z76 z77 z78 z79 z80 z81 z82 z83 z84 z85 z86 z87 z88 z89 z90 z91 z92 z93:Value) (w':World),SysP w0 we B o gb k st fA fN fC gs w'->Q .normal ⟨((Value.pointer (some ⟨o,0,none⟩))::v1::v2::(Value.pointer (some ⟨mx,0,none⟩))::v4::v5::v6::v7::v8::v9::i7::i8::i9::g0::g1::g2::g3::g4::g5::g6::g7::g8::g9::f0::f2::f3::f4::f5::f6::f7::f8::f9::e0::e1::e2::e3::e4::e5::e6::e7::e8::e9::d0::d1::d2::d3::d4::d5::d6::d7::d8::d9::c0::c3::c4::c5::c6::c7::c8::c9::b0::b1::b2::b3::b4::b5::b6::b7::b8::b9::a0::z71::z72::z73::z74::z75::z76::z77::z78::z79::z80::z81::z82::z83::z84::z85::z86::z87::z88::z89::z90::z91::z92::z93::a1::a2::a3::a4::a5::a6::a8::a9::[]).toArray,[]⟩ w'):Code.wp Tryz.prog (reg Tryz.f49 15) Q ⟨((Value.pointer (some ⟨o,0,none⟩))::v1::v2::(Value.pointer (some ⟨mx,0,none⟩))::v4::v5::v6::v7::v8::v9::i7::i8::i9::g0::g1::g2::g3::g4::g5::g6::g7::g8::g9::f0::f2::f3::f4::f5::f6::f7::f8::f9::e0::e1::e2::e3::e4::e5::e6::e7::e8::e9::d0::d1::d2::d3::d4::d5::d6::d7::d8::d9::c0::c3::c4::c5::c6::c7::c8::c9::b0::b1::b2::b3::b4::b5::b6::b7::b8::b9::a0::k4::k5::k6::k7::k8::k9::j0::j1::j2::j3::j4::j5::j6::j7::j8::j9::i0::i1::i2::i3::i4::i5::i6::a1::a2::a3::a4::a5::a6::a8::a9::[]).toArray,[]⟩ w:=by
 obtain⟨X,h4,hB,hD,hl,hG,k0⟩:=h;have hS:=hB.nil (e:=128) (sz:=3) (by decide);simp only[List.cons_append,List.nil_append]at hS;obtain⟨HS,HD,HG⟩:=K3 hS hD hG
 have H8:Hid (∀W:World,w.grownBy W none->W.cell? ⟨o,1,none⟩=some (.slice none 0 0)/\W.cell? ⟨o,2,none⟩=some (.int .i64 ((0:Nat):Int))/\W.cell? ⟨mx,1,none⟩=some (.int .i64 (st:Int))/\W.cell? ⟨mx,2,none⟩=some (.slice fA fN fC)):=Kh (fun W hg=>by
  have hb:=(HS.out.grow hg).box;have q1:=zH hb 1;have q2:=zH hb 2;simp only[List.getElem_toArray,List.getElem_cons_zero,List.getElem_cons_succ]at q1 q2
  exact⟨q1,q2,zK c1 hg,zK c2 hg⟩)
 have l1:IntKind.i64.wrap (st:Int)=st:=xJ (by omega);clear hB hD hG hS c1 c2
 conv=>arg 2;whnf
 obtain⟨w7,h8⟩:=Nm w.drew;have H5:w.grownBy w7 none:=by rw[h8];exact zS w none
 have k1:=Kh h8;have H0:=Kh H5;clear h8 H5;refine wp_region_noPanic ?_;refine yM (G:=wH 23 (fun _=>True) (fun W=>W.cell? ⟨o,1,none⟩=some (.slice none 0 0)/\W.cell? ⟨o,2,none⟩=some (.int .i64 ((0:Nat):Int))/\W.cell? ⟨mx,1,none⟩=some (.int .i64 (st:Int))/\W.cell? ⟨mx,2,none⟩=some (.slice fA fN fC))) (by kernel_rfl) ?_;rw[<-k1.out];have H6:Hid (BoxS B X o 78 w0 w (⟨B,22,.slice (some ⟨gb,0,none⟩) k k,k,h4,1⟩::⟨B,128,.slice none 0 0,0,[],3⟩::[]) #[.slice (some ⟨gb,0,none⟩) k k,.slice none 0 0,.int .i64 ((0:Nat):Int)] w7):=Kh (HS.out.grow H0.out);have C:=Kh (H8.out w7 H0.out);refine zO 0 ⟨trivial,fun _=>C.out⟩ ?_;refine zO 1 ⟨trivial,fun _=>C.out⟩ ?_;refine zO 2 ⟨trivial,fun _=>C.out⟩ ?_;refine zO 3 ⟨trivial,fun _=>C.out⟩ ?_;refine yY 4 ⟨trivial,fun _=>C.out⟩ ?_;refine zO 5 ⟨trivial,fun _=>C.out⟩ ?_;refine zO 6 ⟨trivial,fun _=>C.out⟩ ?_;refine zO 7 ⟨trivial,fun _=>C.out⟩ ?_;refine yY 8 ⟨trivial,fun _=>C.out⟩ ?_;refine zO 9 ⟨trivial,fun _=>C.out⟩ ?_;refine yY 10 ⟨trivial,fun _=>C.out⟩ ?_;refine zO 11 ⟨trivial,fun _=>C.out⟩ ?_;refine zO 12 ⟨trivial,fun _=>C.out⟩ ?_;refine yY 13 ⟨trivial,fun _=>C.out⟩ ?_;refine zO 14 ⟨trivial,fun _=>C.out⟩ ?_;refine zO 15 ⟨trivial,fun _=>C.out⟩ ?_;refine zO 16 ⟨trivial,fun _=>C.out⟩ ?_;refine yY 17 ⟨trivial,fun _=>C.out⟩ ?_;refine zO 18 ⟨trivial,fun _=>C.out⟩ ?_;refine oneG (i:=19) (by kernel_rfl) rfl (fun K hK=>?_);go_simp;have h5:=heap_alloc_new w7 (.cells #[Value.int .i64 (st:Int),.slice fA fN fC,.int .i64 ((0:Nat):Int)] 128);have h6:=Ga w7 (.cells #[Value.int .i64 (st:Int),.slice fA fN fC,.int .i64 ((0:Nat):Int)] 128) none;obtain⟨gR,H4⟩:=Nm w7.heap.size;obtain⟨w9,h3⟩:=Nm (w7.alloc (.cells #[Value.int .i64 (st:Int),.slice fA fN fC,.int .i64 ((0:Nat):Int)] 128));rw[<-H4]at h5⊢;rw[<-h3]at h5 h6
 try rw[<-h3]
 try rw[show w7.alloc (.cells #[Value.int .i64 (st:Int),.slice fA fN fC,.int .i64 0] 128)=w9 from h3.symm]
 have h2:Hid (BoxS B X o 78 w0 w (⟨B,22,.slice (some ⟨gb,0,none⟩) k k,k,h4,1⟩::⟨B,128,.slice none 0 0,0,[],3⟩::[]) #[.slice (some ⟨gb,0,none⟩) k k,.slice none 0 0,.int .i64 ((0:Nat):Int)] w9):=Kh (H6.out.grow h6);have H7:=Kh (zC H0.out h6);have C9:=Kh (H8.out w9 H7.out);refine hK.out _ _ ⟨trivial,fun _=>C9.out⟩ ?_;clear hK K C H4 h3 h6
 try simp only[Act.put,sPa,sPb,sPc]
 have H2:=h2.out.own (r:=⟨B,128,.slice none 0 0,0,[],3⟩) (by simp);have H1:=Nat.le_trans h2.out.base h2.out.wk;refine oneG (i:=20) (by kernel_rfl) rfl (fun K hK=>?_);refine qC rfl (.tmp 75) (.tmp 90) 76 rfl qLJ B (.slice none 0 0) 0 [] rfl H2 [Value.int .i64 (st:Int),.slice fA fN fC,.int .i64 ((0:Nat):Int)] gR rfl (0,0) rfl h5 ?z1 ?z2 ?z3 H1 ?_
 case z1=>intro v hv;simp only[List.mem_cons,List.not_mem_nil,or_false]at hv;rcases hv with rfl|rfl|rfl<;>rfl
 case z2=>unfold maxLen;omega
 case z3=>decide
 intro sN cN wM h1 h9 H3;have h7:Hid (BoxS B X o 78 w0 w (⟨B,22,.slice (some ⟨gb,0,none⟩) k k,k,h4,1⟩::⟨B,128,.slice sN 1 cN,1,[Value.int .i64 (st:Int),.slice fA fN fC,.int .i64 ((0:Nat):Int)],3⟩::[]) #[.slice (some ⟨gb,0,none⟩) k k,.slice none 0 0,.int .i64 ((0:Nat):Int)] wM):=Kh (h2.out.appAt (j:=1) rfl h1 h9 H3);have h0:w9.grownBy wM none:=h9;have l0:Hid (we.grownBy wM (some o)):=Kh (zC (zC HG.out H7.out) h0)
 have CM:Hid (wM.cell? ⟨o,1,none⟩=some (.slice none 0 0)/\wM.cell? ⟨o,2,none⟩=some (.int .i64 ((0:Nat):Int))/\wM.cell? ⟨mx,1,none⟩=some (.int .i64 (st:Int))/\wM.cell? ⟨mx,2,none⟩=some (.slice fA fN fC)):=Kh (by
  have q1:=zH h7.out.box 1;have q2:=zH h7.out.box 2;simp only[List.getElem_toArray,List.getElem_cons_zero,List.getElem_cons_succ]at q1 q2
  exact⟨q1,q2,zK C9.out.2.2.1 h0,zK C9.out.2.2.2 h0⟩)
 refine hK.out _ _ ⟨trivial,fun _=>CM.out⟩ ?_;clear hK K C9 h2 H6 h1 h9 H3 h5 H2 H1 h0
 try simp only[Act.put,sPa,sPb,sPc]
 refine zO 21 ⟨trivial,fun _=>CM.out⟩ ?_;refine zO 22 ⟨trivial,fun _=>CM.out⟩ ?_;refine oneG (i:=23) (by kernel_rfl) rfl (fun K hK=>?_);have q1:=CM.out.1;have f1:=zA h7.out.box 1;go_simp;refine hK.out _ _ ⟨trivial,fun h=>by simp at h⟩ ?_;clear hK K q1 f1 CM
 try simp only[Act.put,sPa,sPb,sPc]
 refine tT (by kernel_rfl) ?_ _;refine NoPanic.normal ?_;have hZ:=h7.out.set 1 (.slice sN 1 cN);have H9:we.grownBy (wM.setCell ⟨o,1,none⟩ (.slice sN 1 cN)) (some o):=zG l0.out (zF wM ⟨o,1,none⟩ _);exact a7 _ _ _ _ _ _ _ _ _ _ _ _ _ _ _ _ _ _ _ _ _ _ _  _ ⟨X,h4,sN,cN,hZ.rebase,HD.out.kept hZ.kept hZ.wk,hl,H9,k0⟩
end Go.Proofs.YtobakifdllameaaGreat
