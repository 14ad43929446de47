/- Part 15 of the proof. -/
import Derived.Test.YtobakifdllameaaQa12
import Derived.Test.YtobakifdllameaaQa14
import Derived.Deep.OwnRows
import Derived.WalkSpells
set_option linter.unusedVariables false
set_option linter.unusedSimpArgs false
set_option maxRecDepth 100000
set_option maxHeartbeats 16000000
namespace Go.Proofs.Ytobakifdllameaa
open Go.RowKit
structure SynV where
 k:Nat
 tab:List (List Nat)
 words:List (List Nat)
 images:List Nat
 accept:List Bool
 plus:List Bool
def oM (B:Nat)(w:World)(v:Value)(ts:List (List Nat)):Prop:=∃hs,RowT B 22 w v hs/\tG B 3 nats w hs ts
theorem oM.tmat {B:Nat}{w:World}{v:Value}{ts:List (List Nat)}(h:oM B w v ts):TMat B w v ts:=by
 obtain⟨hs,h1,h2⟩:=h;exact⟨hs,h1.row,h2⟩
theorem oM.kept {B:Nat}{w w':World}{v:Value}{ts:List (List Nat)}{row:Option Nat}(h:oM B w v ts)(hg:w.grownBy w' row)(h1:∀k,row=some k->B<=k\/xI w 22 k)(h2:∀k,row=some k->B<=k\/xI w 3 k):oM B w' v ts:=by
 obtain⟨hs,h3,h4⟩:=h;exact⟨hs,h3.kept hg h1,h4.kept hg h2⟩
theorem oM.mono {B B':Nat}{w:World}{v:Value}{ts:List (List Nat)}(h:oM B w v ts)(hB:B<=B'):oM B' w v ts:=by
 obtain⟨hs,h3,h4⟩:=h;exact⟨hs,h3.mono hB,h4.mono hB⟩
theorem TX.tmatT {X:Nat->Prop}{w:World}{v:Value}{ts:List (List Nat)}(h:TX X w v ts):oM w.heap.size w v ts:=by
 obtain⟨hs,h1,h2⟩:=h;exact⟨hs,h1.1,h2.rowsT⟩
def kT (B:Nat)(w:World)(v:Value)(S:SynV):Prop:=∃vT vW vI vA vP,v=.agg #[.int .i64 S.k,vT,vW,vI,vA,vP]/\oM B w vT S.tab/\RowT B 9 w vW (tZ S.words)/\RowT B 3 w vI (nats S.images)/\RowT B 4 w vA (bls S.accept)/\RowT B 4 w vP (bls S.plus)
def qLJ (e:TypeId):Prop:=22≠e/\3≠e/\9≠e/\4≠e
theorem kT.kept {B:Nat}{w w':World}{v:Value}{S:SynV}{row:Option Nat}(h:kT B w v S)(hg:w.grownBy w' row)(hr:∀k,row=some k->B<=k\/∃c e m,w.heap[k]?=some (.cells c e m)/\qLJ e):kT B w' v S:=by
 obtain⟨vT,vW,vI,vA,vP,rfl,h1,h2,h3,h4,h5⟩:=h
 have t:∀e',(∀e,qLJ e->e'≠e)->∀k,row=some k->B<=k\/xI w e' k:=fun e' he k hk=>by
  rcases hr k hk with h|⟨c,e,m,hb,hn⟩
  ·exact .inl h
  exact .inr ⟨c,e,m,hb,fun e1=>he e hn e1.symm⟩
 exact⟨vT,vW,vI,vA,vP,rfl,h1.kept hg (t _ (fun e h=>h.1)) (t _ (fun e h=>h.2.1)),h2.kept hg (t _ (fun e h=>h.2.2.1)),h3.kept hg (t _ (fun e h=>h.2.1)),h4.kept hg (t _ (fun e h=>h.2.2.2)),h5.kept hg (t _ (fun e h=>h.2.2.2))⟩
theorem kT.mono {B B':Nat}{w:World}{v:Value}{S:SynV}(h:kT B w v S)(hB:B<=B'):kT B' w v S:=by
 obtain⟨vT,vW,vI,vA,vP,rfl,h1,h2,h3,h4,h5⟩:=h;exact⟨vT,vW,vI,vA,vP,rfl,h1.mono hB,h2.mono hB,h3.mono hB,h4.mono hB,h5.mono hB⟩
def accE (fin:List Bool)(st:Nat)(el:List (List Nat)):List Bool:=el.map fun f=>fin.getD (f.getD st 0) false
def imgE (gs el:List (List Nat)):List Nat:=gs.map fun g=>el.idxOf g
def wP (pr la:List Int)(m:Nat):List (List Nat):=(List.range m).map (wQ pr la)
def mN (m:Nat)(l:List Nat):List Bool:=l.foldl (fun ps x=>ps.set x true) (List.replicate m false)
def SynE (gs:List (List Nat))(n st:Nat)(fin:List Bool)(S:SynV):Prop:=∃(el:List (List Nat)) (pr la:List Int) (ri:List (List Nat)) (mm:List Nat),FinE gs n el pr la ri el.length/\el.length<=400/\S.k=gs.length/\S.tab=tabE pr la ri el.length/\S.words=wP pr la el.length/\S.images=imgE gs el/\S.accept=accE fin st el /\
 GenI (tabI S.tab) S.images mm/\pB (tabI S.tab) mm/\S.plus=mN el.length (nD (metL el.length mm))
def OfOk (gs:List (List Nat))(n st:Nat)(fin:List Bool)(w:World)(e:Ending)(w':World):Prop :=
 (e=.returned (.tuple #[.agg #[.int .i64 0,.slice none 0 0,.slice none 0 0,.slice none 0 0,.slice none 0 0,.slice none 0 0],.int .i64 3])/\(Big n/\qAF gs n)/\w.grownBy w' none) \/
 ∃(S:SynV) (v:Value),e=.returned (.tuple #[v,.int .i64 0])/\SynE gs n st fin S/\kT w'.heap.size w' v S/\w.grownBy w' none
theorem pL (pr la:List Int)(m:Nat):(wP pr la m).length=m:=by simp[wP]
theorem qAH {pr la:List Int}{m q:Nat}(hq:q<m):tZ ((wP pr la m).take q)++[.string (strOfNums (lets (wQ pr la q)))]=tZ ((wP pr la m).take (q+1)):=by
 rw[List.take_succ_eq_append_getElem (by rw[pL];exact hq)];simp[tZ,wP]
theorem qII {fin:List Bool}{st q:Nat}{el:List (List Nat)}(hq:q<el.length):bls ((accE fin st el).take q)++[.bool (fin.getD ((el.getD q []).getD st 0) false)]=bls ((accE fin st el).take (q+1)):=by
 rw[List.take_succ_eq_append_getElem (by simpa [accE] using hq),zN hq];simp[bls,accE]
theorem qHO {gs el:List (List Nat)}{q:Nat}(hq:q<gs.length):nats ((imgE gs el).take q)++[.int .i64 ((el.idxOf (gs.getD q []):Nat):Int)]=nats ((imgE gs el).take (q+1)):=by
 rw[List.take_succ_eq_append_getElem (by simpa [imgE] using hq),zN hq];simp[nats,imgE]
theorem TX.of_own {w:World}{o P g n:Nat}{v:Value}{ts:List (List Nat)}{e e':TypeId}{c c' c2:Array Value}{m m' m2:Nat×Nat}(h:OwnT 0 w v n ts)(hb:w.heap[o]?=some (.cells c e m))(hP:w.heap[P]?=some (.cells c' e m'))(a9:w.heap[g]?=some (.cells c2 e' m2))(h1:e≠22)(h2:e≠3)(h3:e'≠22)(h4:e'≠3):TX (fun j=>j<w.heap.size/\j≠o/\j≠P/\j≠g) w v ts:=by
 obtain⟨h8,h0,h7,h9⟩:=h;refine⟨h8,⟨RowT.of_owns h0,fun j hj=>⟨(h0.lt j hj).2,fun e1=>zS h0 hb (Ne.symm h1) (e1 ▸ hj),fun e1=>zS h0 hP (Ne.symm h1) (e1 ▸ hj),fun e1=>zS h0 a9 (Ne.symm h3) (e1 ▸ hj)⟩⟩,h7.1,fun i h5 h6=>⟨h7.2 i h5 h6,fun j hj=>?_⟩⟩;rcases h7.2 i h5 h6 with ⟨e,_⟩|⟨b,off,cap,cur,m,e,e2,e3,e4,e5,e6⟩
 ·rw[e]at hj;simp[Value.ownBlock]at hj
 rw[e]at hj;have hj:b=j:=by simpa [Value.ownBlock] using hj
 subst hj;refine⟨zR e5,fun e7=>?_,fun e7=>?_,fun e7=>?_⟩
 ·subst e7;rw[hb]at e5;simp at e5;exact h2 e5.2.1
 ·subst e7;rw[hP]at e5;simp at e5;exact h2 e5.2.1
 subst e7;rw[a9]at e5;simp at e5;exact h4 e5.2.1
theorem qKJ {ts:List (List Nat)}{f:List Nat}(h:f∈ts):nK ts f=((ts.idxOf f:Nat):Int):=by unfold nK;rw[if_pos h]
theorem qDR (m:Nat)(l:List Nat)(x:Nat):mN m (l++[x])=(mN m l).set x true:=by simp[mN,List.foldl_append]
theorem kZ (m:Nat)(l:List Nat):(mN m l).length=m:=by
 suffices h:∀(l:List Nat) (ps:List Bool),(l.foldl (fun ps x=>ps.set x true) ps).length=ps.length by
  rw[mN,h,List.length_replicate]
 intro l
 induction l with
 | nil=>intro ps;rfl
 | cons x l ih=>intro ps;rw[List.foldl_cons,ih,List.length_set]
theorem qMX {l:List Nat}{i:Nat}(h:i<(nats l).length):(nats l)[i]=.int .i64 ((l.getD i 0:Nat):Int):=by
 rw[zN (by simpa [nats] using h)];simp[nats]
theorem qOL {l:List Bool}{i:Nat}(h:i<(bls l).length):(bls l)[i]=.bool (l.getD i false):=by
 rw[zN (by simpa [bls] using h)];simp[bls]
theorem qKC {bs:List Bool}{x:Nat}(h:x∈nD bs):x<bs.length:=by
 have:=List.mem_filter.1 h;exact List.mem_range.1 this.1
theorem mX (gs el:List (List Nat)):(imgE gs el).length=gs.length:=by simp[imgE]
theorem lE (fin:List Bool)(st:Nat)(el:List (List Nat)):(accE fin st el).length=el.length:=by simp[accE]
theorem qBS (l:List Bool)(i:Nat)(c:Bool):(bls l).set i (.bool c)=bls (l.set i c):=by simp[bls,List.map_set]
theorem qJR (B C:Nat)(w:World)(v0 v2:Value)(gs:List (List Nat))(n st:Nat)(fin:List Bool)(hB:B<=w.heap.size)(hC:C<=w.heap.size)(h:TMat B w v0 gs)(hf:Row C w v2 (bls fin))(a7:fin.length=n)(a6:st<n)(a8:∀g∈gs,IsT n g)(a4:n<=32)(a5:1<=gs.length)(a9:gs.length<=6):Calls Try.prog 38 #[v0,.int .i64 (st:Int),v2] w (OfOk gs n st fin w):=by
 obtain⟨gb,gf,gc,rfl,z9,s3,A0,z7,f9⟩:=h.head (by omega);obtain⟨fb,fo,fc,rfl,A1,k5,k4,m6⟩:=hf.some_ (by rw[zZ];omega);rw[zZ,a7]at k5⊢;obtain⟨w1,g9⟩:=Nm (w.alloc (.cells #[.int .i64 0,.slice none 0 0,.slice none 0 0,.slice none 0 0,.slice none 0 0,.slice none 0 0] 44));have i0:w.grownBy w1 none:=by rw[g9];exact Ga w _ none
 have i2:=heap_alloc_new w (.cells #[.int .i64 0,.slice none 0 0,.slice none 0 0,.slice none 0 0,.slice none 0 0,.slice none 0 0] 44);rw[<-g9]at i2;have y6:=Kh (qBR B w1 _ gs n (Nat.le_trans hB i0.size) (h.kept i0 (by simp)) a8 (by omega) a4 a5 a9);obtain⟨P,hP⟩:=Nm w.heap.size;obtain⟨i7,t8,p8,i8,x8,x3⟩:=K6 hP g9 i0 a8 f9 m6;have y1:=Kh a7;have A5:=Kh h;rw[<-hP]at i2;have p9:=Kh i2;have s2:gc<=9223372036854775807:=by unfold maxLen at s3;omega
 have s7:fc<=9223372036854775807:=by unfold maxLen at k4;omega
 clear g9 i0 i2 a8 h hf f9 m6 a7;go_enter Try.func38,Try.ntmps38;go_upto_region 1 with fail;rw[<-t8.out,<-i7.out];clear hP;go_wp2_with fail;refine y6.out.mono ?_;rintro e w2 (⟨rfl,g4,h5⟩|⟨el,pr,la,ri,m,gN,uN,gA,uA,gC,uC,vP,vL,vR,sE,cE,rfl,e0,hl,z0,hE,i3,i4,hR,h5⟩)
 ·have m1:=Kh g4
  clear g4;have e3:=zB p9.out h5;obtain⟨w3,b9⟩:=Nm (w2.alloc (.cells #[.int .i64 0,.bool false,.slice none 0 0,.slice none 0 0,.slice none 0 0,.slice none 0 0,.slice none 0 0,.slice none 0 0,.int .i64 0] 90));have b2:w2.grownBy w3 none:=by rw[b9];exact Ga w2 _ none
  have h0:=zB e3 b2;have j1:=Kh h0;have j0:=Kh (zC (zC p8.out h5) b2);have l7:=Kh b9;obtain⟨p0,p1,p2,p3,p4,p5⟩:=zV h0;have f0:=zA h0 0;have f1:=zA h0 1;have f2:=zA h0 2;have f3:=zA h0 3;have f4:=zA h0 4;have f5:=zA h0 5;clear h5 e3 b9 b2 h0;go_upto_region 2 with fail;rw[<-l7.out];go_wp2;refine bodyPost_ret (v:=.tuple #[.agg #[.int .i64 0,.slice none 0 0,.slice none 0 0,.slice none 0 0,.slice none 0 0,.slice none 0 0],.int .i64 3]) (by simp[results,Try.results38,go_sem,p0,p1,p2,p3,p4,p5]) rfl ?_;obtain⟨m4,H4⟩:=vZ j1.out (.int .i64 0) (.slice none 0 0) (.slice none 0 0) (.slice none 0 0) (.slice none 0 0) (.slice none 0 0);exact .inl ⟨rfl,m1.out,yN j0.out H4 (by show _<=P;have:=i7.out;omega)⟩
 obtain⟨pA,pC,rfl⟩:=i3.shape;obtain⟨lA,lC,rfl⟩:=i4.shape;obtain⟨rA,rC,rfl⟩:=hR.shape;rw[zO,e0.en.l2,hl]at i3⊢;rw[zO,e0.en.l3,hl]at i4⊢;rw[e0.rl]at hR⊢;obtain⟨eb,eo,ec,ee,t1,t0,t2,s8,g3⟩:=hE.head (by have:=e0.en.pos;omega);rw[hl]at ee t1;simp only[Value.slice.injEq]at ee;obtain⟨rfl,_,rfl⟩:=ee;have s9:cE<=9223372036854775807:=by unfold maxLen at t0;omega
 have e3:=zB p9.out h5;obtain⟨w3,b9⟩:=Nm (w2.alloc (.cells #[.int .i64 n,.bool true,.slice gA gN gC,.slice (some ⟨eb,eo,none⟩) m cE,.slice pA m pC,.slice lA m lC,.slice rA m rC,.slice uA uN uC,.int .i64 m] 90));have b2:w2.grownBy w3 none:=by rw[b9];exact Ga w2 _ none
 have g6:=heap_alloc_new w2 (.cells #[.int .i64 n,.bool true,.slice gA gN gC,.slice (some ⟨eb,eo,none⟩) m cE,.slice pA m pC,.slice lA m lC,.slice rA m rC,.slice uA uN uC,.int .i64 m] 90);rw[<-b9]at g6;obtain⟨b8,k6⟩:=Nm w2.heap.size;rw[<-k6]at g6;have h0:=zB e3 b2;have A3:P<b8:=by have:=zR e3;omega
 have j1:=Kh h0;have j0:=Kh (zC (zC p8.out h5) b2);obtain⟨l7,y8,y4,m0,b1,HL⟩:=K6 b9 g6 k6 b2 e0 hl;obtain⟨HE,y3,o8,p7,HR⟩:=K5 hE g3 i3 i4 hR;have z5:1<=m:=by rw[<-hl];exact e0.en.pos
 obtain⟨p0,p1,p2,p3,p4,p5⟩:=zV h0;have f0:=zA h0 0;have f1:=zA h0 1;have f2:=zA h0 2;have f3:=zA h0 3;have f4:=zA h0 4;have f5:=zA h0 5;obtain⟨q0,q1,q2,q3,q4,q5,q6,q7,q8⟩:=zU g6;clear h5 e3 b9 b2 h0 g6 e0 hl hE i3 i4 hR k6 g3 t2 s8 q0 q1 q2 q4 q5 q6 q7 q8;go_upto_region 2 with fail;rw[<-l7.out,<-y4.out];by_cases hm4:400<m
 ·have k0:(400:Int)<m:=by omega
  go_wp2;refine bodyPost_ret (v:=.tuple #[.agg #[.int .i64 0,.slice none 0 0,.slice none 0 0,.slice none 0 0,.slice none 0 0,.slice none 0 0],.int .i64 3]) (by simp[results,Try.results38,go_sem,p0,p1,p2,p3,p4,p5]) rfl ?_;obtain⟨m4,H4⟩:=vZ j1.out (.int .i64 0) (.slice none 0 0) (.slice none 0 0) (.slice none 0 0) (.slice none 0 0) (.slice none 0 0);exact .inl ⟨rfl,⟨⟨el,b1.out.en.nodup,by rw[HL.out];exact hm4,b1.out.en.it⟩,(show FinE gs n el pr la ri el.length by rw[HL.out];exact b1.out).nosyn (by rw[HL.out];exact hm4) (by omega) a5⟩,yN j0.out H4 (by show _<=P;have:=i7.out;omega)⟩
 have k0:¬(400:Int)<m:=by omega
 obtain⟨T,hT⟩:=Nm (tabE pr la ri m);obtain⟨w5,j6⟩:=Nm w3.drew;have g2:w3.grownBy w5 none:=(by rw[j6];exact zY w3 none);have t7:=Kh j6;have e1:=zB y8.out g2;have b4:=Kh e1;have b0:=Kh (zC m0.out g2);have m2:=Kh (zB j1.out g2);have i9:=Kh (zC j0.out g2);have k9:T.length=m:=by rw[hT];exact wF pr la ri m
 have j5:sY pr la m gs.length:=by have:=b1.out.en.words;rw[HL.out]at this;exact this
 have m5:qBX ri m gs.length:=by
  have:=b1.out;rw[<-HL.out]at this⊢;exact this.right
 have j8:pr.length=m:=by rw[b1.out.en.l2,HL.out]
 have k1:la.length=m:=by rw[b1.out.en.l3,HL.out]
 have t9:Hid (∀W:World,w5.grownBy W none->Calls Try.prog 62 #[.agg #[.int .i64 n,.bool true,.slice gA gN gC,.slice (some ⟨eb,eo,none⟩) m cE,.slice pA m pC,.slice lA m lC,.slice rA m rC,.slice uA uN uC,.int .i64 m]] W (gV W T)):=Kh (fun W hg=>by
  have h5:=zC b0.out hg;rw[hT]
  exact qAN W.heap.size W.heap.size W.heap.size W _ _ _ _ _ _ cE _ _ _ pr la ri m gs.length (Nat.le_refl _) (Nat.le_refl _) (Nat.le_refl _) ((o8.out.kept h5 (by simp)).mono h5.size) ((p7.out.kept h5 (by simp)).mono h5.size) ((HR.out.kept h5 (by simp)).mono h5.size) j8 k1 j5 m5 a9 (by omega))
 obtain⟨t6,l8,d1,x5,l9⟩:=K5 j5 hT k9 j8 k1;have n0:=qGV m (by omega);have f6:=Kh (qHK m);have r7:m<=maxLen:=by unfold maxLen;omega
 have C:=Kh (zU e1);clear g2 j6 e1 j5 m5 j8 k1 hT;go_upto_region 4 with fail;refine wp_region_noPanic ?_;refine yK (G:=xU 10 (fun W=>W.cell? ⟨b8,0,none⟩=some (.int .i64 n)/\W.cell? ⟨b8,1,none⟩=some (.bool true)/\W.cell? ⟨b8,2,none⟩=some (.slice gA gN gC)/\W.cell? ⟨b8,3,none⟩=some (.slice (some ⟨eb,eo,none⟩) m cE)/\W.cell? ⟨b8,4,none⟩=some (.slice pA m pC)/\W.cell? ⟨b8,5,none⟩=some (.slice lA m lC)/\W.cell? ⟨b8,6,none⟩=some (.slice rA m rC)/\W.cell? ⟨b8,7,none⟩=some (.slice uA uN uC)/\W.cell? ⟨b8,8,none⟩=some (.int .i64 m)) (fun _=>True)) (by kernel_rfl) ?_;rw[<-t7.out];refine zL 0 ⟨C.out,fun _=>trivial⟩ ?_;refine zL 1 ⟨C.out,fun _=>trivial⟩ ?_;refine zL 2 ⟨C.out,fun _=>trivial⟩ ?_;refine zL 4 ⟨C.out,fun _=>trivial⟩ ?_;refine zL 5 ⟨C.out,fun _=>trivial⟩ ?_;refine zL 6 ⟨C.out,fun _=>trivial⟩ ?_;refine uG (fun Wp hWp a0 ha0=>?_);subst hWp
 try simp only[Act.put,sPd,sPe,sPf,sPa,sPb,sPc]at ha0
 have y9:=Kh ha0;refine uF (I:=of4I gs.length m b8 T (.slice (some ⟨gb,gf,none⟩) gs.length gc) (.int .i64 n) (.bool true) (.slice gA gN gC) (.slice (some ⟨eb,eo,none⟩) m cE) (.slice pA m pC) (.slice lA m lC) (.slice rA m rC) (.slice uA uN uC) (.int .i64 m) w5 a0) (fun l a w h=>qPK b4.out h) (qGL ha0 t9.out k9 n0 f6 r7) (by kernel_rfl) ?hend (by decide +kernel) ?hinit
 case hinit =>
  clear ha0;refine⟨a0.tmps.getD 34 undef,a0.tmps.getD 38 undef,a0.tmps.getD 39 undef,a0.tmps.getD 10 undef,0,(vG (by simp)).symm,by decide +kernel,Kh (fun h=>absurd h (by decide +kernel)),Kh (fun h=>absurd h (by decide +kernel)),Kh (fun h=>absurd h (by decide +kernel)),Kh (fun h=>absurd h (by decide +kernel)),Kh (fun h=>absurd h (by decide +kernel)),Kh (fun h=>absurd h (by decide +kernel)),yD _ _⟩
 clear ha0;intro l a w6 h a1;obtain⟨x34,x38,x39,x10,o,ha,HR,H3,H7,H8,H9,B1,B2,HG⟩:=h;obtain⟨sT,cT,rfl,c6⟩:=H3.out (a1 3 (by decide));obtain⟨gp,rfl,i5⟩:=H7.out (a1 7 (by decide));obtain⟨_,_,rfl⟩:=H8.out (a1 8 (by decide));obtain⟨rfl,j9⟩:=H9.out (a1 9 (by decide));obtain⟨_,_,_,_,k8⟩:=B2.out (a1 10 (by decide));clear H3 H7 H8 H9 B1 B2 HR;subst ha;rw[y9.out];simp only[zM,List.foldl_cons,List.foldl_nil,Act.put,sPa,sPb,sPc];refine NoPanic.normal ?_;obtain⟨Q,hQ⟩:=Nm w5.heap.size;have l4:=zR m2.out;have g5:=zB m2.out HG;obtain⟨kp,d8,_,_,t3⟩:=yY i5 (by omega);have d8:gp=kp:=by simpa using d8
 subst d8;obtain⟨cp,_,f8,_⟩:=t3;have l0:=TX.of_own c6 k8 g5 f8 (by decide) (by decide) (by decide) (by decide);obtain⟨X,hX⟩:∃X:Nat->Prop,X=fun j=>j<w6.heap.size/\j≠o/\j≠P/\j≠gp:=⟨_,rfl⟩;rw[<-hX]at l0;rw[<-hQ]at i5 l4 j9;have n6:¬X P:=fun h=>by rw[hX]at h;exact h.2.2.1 rfl
 have o0:BoxS Q X o 44 w5 w6 [⟨Q,4,.slice (some ⟨gp,0,none⟩) m m,m,bls (List.replicate m false),1⟩] #[.int .i64 gs.length,.slice sT m cT,.slice none 0 0,.slice none 0 0,.slice none 0 0,.slice (some ⟨gp,0,none⟩) m m] w6 :=
  ⟨⟨fun r hr=>by rw[List.mem_singleton]at hr;subst hr;exact i5,by simp,fun r hr k hk hx=>by
    rw[List.mem_singleton]at hr;subst hr;have hk:gp=k:=by simpa [Value.ownBlock] using hk
    subst hk;rw[hX]at hx;exact hx.2.2.2 rfl,fun k hx=>by rw[hX]at hx;exact hx.1⟩,fun r hr=>by rw[List.mem_singleton]at hr;subst hr;exact⟨rfl,by simp⟩,k8,fun h=>by rw[hX]at h;exact h.2.1 rfl,by omega,by omega,by rw[hQ];exact HG.size,HG,xQ.refl _ _,Nat.le_refl _⟩
 have n9:BoxS Q X o 44 w5 w6 [⟨Q,4,.slice (some ⟨gp,0,none⟩) m m,m,bls (List.replicate m false),1⟩,⟨Q,9,.slice none 0 0,0,[],1⟩,⟨Q,4,.slice none 0 0,0,[],1⟩,⟨Q,3,.slice none 0 0,0,[],1⟩] #[.int .i64 gs.length,.slice sT m cT,.slice none 0 0,.slice none 0 0,.slice none 0 0,.slice (some ⟨gp,0,none⟩) m m] w6:=((o0.nil (e:=9) (sz:=1) (by decide)).nil (e:=4) (sz:=1) (by decide)).nil (e:=3) (sz:=1) (by decide);obtain⟨o7,o4,t5,HQ,o9,p6⟩:=K6 n9 l0 n6 hQ l4 j9;have A6:=Kh HG;have r6:=zJ (zU b4.out).2.2.2.1 HG;clear o0 n9 l0 hX n6 i5 l4 g5 c6 k8 f8 hQ j9 HG n0 f6 k9;go_wp2
 go_loopg [11,12,43] m (fun gh v11 v12 i wr=>∃(q:Nat) (sW:Option Addr) (cW:Nat) (sA:Option Addr) (cA:Nat),gh+q=m/\i=.int .i64 q/\BoxS Q X o 44 w5 w6 [⟨Q,4,.slice (some ⟨gp,0,none⟩) m m,m,bls (List.replicate m false),1⟩,⟨Q,9,.slice sW q cW,q,tZ ((wP pr la m).take q),1⟩,⟨Q,4,.slice sA q cA,q,bls ((accE fin st el).take q),1⟩,⟨Q,3,.slice none 0 0,0,[],1⟩] #[.int .i64 gs.length,.slice sT m cT,.slice sW q cW,.slice none 0 0,.slice sA q cA,.slice (some ⟨gp,0,none⟩) m m] wr)
 case atStart=>exact⟨0,none,0,none,0,by omega,rfl,o7.out⟩
 obtain⟨q,sW,cW,sA,cA,c7,rfl,hS⟩:=hrel;have d4:=Kh c7;have HS:=Kh hS;have d2:=Kh hS.grown;clear c7 hS o7;by_cases hq:q<m
 ·have m7:(q:Int)<m:=by omega
  obtain⟨xa,xc,j4,j2⟩:=y3.out q (by rw[HL.out];exact hq);have d6:IsT n (el.getD q []):=b1.out.en.it _ (uP (by rw[HL.out];exact hq));rw[d6.1]at j4 j2;have r1:=zJ j4 (zC b0.out d2.out);obtain⟨xb,xo,xc',exa,r2,b3,e8,e7⟩:=j2.row.some_ (by rw[zQ,d6.1];omega);rw[zQ,d6.1]at exa;simp only[Value.slice.injEq]at exa;obtain⟨rfl,_,rfl⟩:=exa;obtain⟨y,hy⟩:=Nm ((el.getD q []).getD st 0);have q9:y<n:=by rw[hy];exact d6.get a6
  have m3:w2.cell? ⟨xb,xo+st,none⟩=some (.int .i64 (y:Int)):=by
   have:=e7.2 st (by rw[zQ,d6.1];exact a6);rw[this,qMX,hy]
  obtain⟨bb,k7⟩:=Nm (fin.getD y false)
  have n5:w.cell? ⟨fb,fo+y,none⟩=some (.bool bb):=by
   have:=x3.out.2 y (by rw[zZ,y1.out];exact q9);rw[this,qOL,k7]
  have j3:xc<=9223372036854775807:=by rw[zQ]at b3;unfold maxLen at e8;omega
  have r0:n<=xc:=by rw[zQ,d6.1]at b3;exact b3
  have l6:Hid (bls ((accE fin st el).take q)++[.bool bb]=bls ((accE fin st el).take (q+1))):=Kh (by
   rw[k7,hy];exact qII (by rw[HL.out];exact hq))
  have t4:=Kh m3;have y7:=Kh n5
  have o3:Hid (∀W:World,w5.grownBy W none->Calls Try.prog 63 #[.agg #[.int .i64 n,.bool true,.slice gA gN gC,.slice (some ⟨eb,eo,none⟩) m cE,.slice pA m pC,.slice lA m lC,.slice rA m rC,.slice uA uN uC,.int .i64 m],.int .i64 (q:Int)] W fun e w'=>e=.returned (.string (strOfNums (lets (wQ pr la q))))/\W.grownBy w' none):=Kh (fun W hg=>by
   have h5:=zC b0.out hg
   exact nY W.heap.size W.heap.size W _ _ _ _ _ _ _ _ _ pr la m gs.length q (Nat.le_refl _) (Nat.le_refl _) ((o8.out.kept h5 (by simp)).mono h5.size) ((p7.out.kept h5 (by simp)).mono h5.size) x5.out l9.out t6.out a9 (by omega) hq)
  have H1:Hid (∀(W:World) (rs:List RowS),BoxS Q X o 44 w5 w6 rs #[.int .i64 gs.length,.slice sT m cT,.slice sW q cW,.slice none 0 0,.slice sA q cA,.slice (some ⟨gp,0,none⟩) m m] W->W.cell? ⟨o,2,none⟩=some (.slice sW q cW)/\W.cell? ⟨b8,0,none⟩=some (.int .i64 n)/\W.cell? ⟨b8,1,none⟩=some (.bool true)/\W.cell? ⟨b8,2,none⟩=some (.slice gA gN gC)/\W.cell? ⟨b8,3,none⟩=some (.slice (some ⟨eb,eo,none⟩) m cE)/\W.cell? ⟨b8,4,none⟩=some (.slice pA m pC)/\W.cell? ⟨b8,5,none⟩=some (.slice lA m lC)/\W.cell? ⟨b8,6,none⟩=some (.slice rA m rC)/\W.cell? ⟨b8,7,none⟩=some (.slice uA uN uC)/\W.cell? ⟨b8,8,none⟩=some (.int .i64 m)):=Kh (fun W rs hS=>⟨(zV hS.box).2.2.1,zU (zB b4.out hS.grown)⟩);clear j4 j2 d6 hy m3 k7 n5 e7 b3 r2 e8;obtain⟨w7,H2⟩:=Nm wr.drew;have H6:wr.grownBy w7 none:=(by rw[H2];exact zY wr none);have e5:=Kh H2;have d5:=Kh H6;clear H2 H6;go_upto_region 8 with fail;refine wp_region_noPanic ?_;refine yK (G:=xU 8 (fun _=>True) (fun W=>W.cell? ⟨o,2,none⟩=some (.slice sW q cW)/\W.cell? ⟨b8,0,none⟩=some (.int .i64 n)/\W.cell? ⟨b8,1,none⟩=some (.bool true)/\W.cell? ⟨b8,2,none⟩=some (.slice gA gN gC)/\W.cell? ⟨b8,3,none⟩=some (.slice (some ⟨eb,eo,none⟩) m cE)/\W.cell? ⟨b8,4,none⟩=some (.slice pA m pC)/\W.cell? ⟨b8,5,none⟩=some (.slice lA m lC)/\W.cell? ⟨b8,6,none⟩=some (.slice rA m rC)/\W.cell? ⟨b8,7,none⟩=some (.slice uA uN uC)/\W.cell? ⟨b8,8,none⟩=some (.int .i64 m))) (by kernel_rfl) ?_;rw[<-e5.out];have a3:=Kh (HS.out.grow d5.out);have C:Hid (w7.cell? ⟨o,2,none⟩=some (.slice sW q cW)/\w7.cell? ⟨b8,0,none⟩=some (.int .i64 n)/\w7.cell? ⟨b8,1,none⟩=some (.bool true)/\w7.cell? ⟨b8,2,none⟩=some (.slice gA gN gC)/\w7.cell? ⟨b8,3,none⟩=some (.slice (some ⟨eb,eo,none⟩) m cE)/\w7.cell? ⟨b8,4,none⟩=some (.slice pA m pC)/\w7.cell? ⟨b8,5,none⟩=some (.slice lA m lC)/\w7.cell? ⟨b8,6,none⟩=some (.slice rA m rC)/\w7.cell? ⟨b8,7,none⟩=some (.slice uA uN uC)/\w7.cell? ⟨b8,8,none⟩=some (.int .i64 m)):=Kh (H1.out w7 _ a3.out);refine zL 0 ⟨trivial,fun _=>C.out⟩ ?_;refine yV 1 ⟨trivial,fun _=>C.out⟩ ?_;refine yV 2 ⟨trivial,fun _=>C.out⟩ ?_;refine zL 3 ⟨trivial,fun _=>C.out⟩ ?_;refine oneG (i:=4) (by kernel_rfl) rfl (fun K hK=>?_);go_simp
  go_at_call 63
  refine(o3.out w7 (zC d2.out d5.out)).mono ?_;rintro e w8 ⟨rfl,g1⟩;have e2:=Kh (a3.out.grow g1);have C8:Hid (w8.cell? ⟨o,2,none⟩=some (.slice sW q cW)/\w8.cell? ⟨b8,0,none⟩=some (.int .i64 n)/\w8.cell? ⟨b8,1,none⟩=some (.bool true)/\w8.cell? ⟨b8,2,none⟩=some (.slice gA gN gC)/\w8.cell? ⟨b8,3,none⟩=some (.slice (some ⟨eb,eo,none⟩) m cE)/\w8.cell? ⟨b8,4,none⟩=some (.slice pA m pC)/\w8.cell? ⟨b8,5,none⟩=some (.slice lA m lC)/\w8.cell? ⟨b8,6,none⟩=some (.slice rA m rC)/\w8.cell? ⟨b8,7,none⟩=some (.slice uA uN uC)/\w8.cell? ⟨b8,8,none⟩=some (.int .i64 m)):=Kh (H1.out w8 _ e2.out);refine hK.out _ _ ⟨trivial,fun _=>C8.out⟩ ?_;clear hK K C a3 g1
  try simp only[Act.put,sPa,sPb,sPc]
  obtain⟨sw,j7⟩:=Nm (strOfNums (lets (wQ pr la q)));have i6:Hid (tZ ((wP pr la m).take q)++[.string sw]=tZ ((wP pr la m).take (q+1))):=Kh (by rw[j7];exact qAH hq);rw[<-j7];clear j7;refine oneG (i:=5) (by kernel_rfl) rfl (fun K hK=>?_);go_simp;have H0:=heap_alloc_new w8 (.cells #[.string sw] 9);have H5:=Ga w8 (.cells #[.string sw] 9) none;obtain⟨gR,c8⟩:=Nm w8.heap.size;obtain⟨w9,b7⟩:=Nm (w8.alloc (.cells #[.string sw] 9));rw[<-c8]at H0⊢;rw[<-b7]at H0 H5⊢;have a2:=Kh (e2.out.grow H5);have C9:Hid (w9.cell? ⟨o,2,none⟩=some (.slice sW q cW)/\w9.cell? ⟨b8,0,none⟩=some (.int .i64 n)/\w9.cell? ⟨b8,1,none⟩=some (.bool true)/\w9.cell? ⟨b8,2,none⟩=some (.slice gA gN gC)/\w9.cell? ⟨b8,3,none⟩=some (.slice (some ⟨eb,eo,none⟩) m cE)/\w9.cell? ⟨b8,4,none⟩=some (.slice pA m pC)/\w9.cell? ⟨b8,5,none⟩=some (.slice lA m lC)/\w9.cell? ⟨b8,6,none⟩=some (.slice rA m rC)/\w9.cell? ⟨b8,7,none⟩=some (.slice uA uN uC)/\w9.cell? ⟨b8,8,none⟩=some (.int .i64 m)):=Kh (H1.out w9 _ a2.out);refine hK.out _ _ ⟨trivial,fun _=>C9.out⟩ ?_;clear hK K C8 e2 c8 b7 H5
  try simp only[Act.put,sPa,sPb,sPc]
  obtain⟨d0,b5,h3⟩:=a2.out.push;have d3:=Kh h3;have h7:=dE H0;clear h3;refine oneG (i:=6) (by kernel_rfl) rfl (fun K hK=>?_);refine pG rfl (.tmp 49) (.tmp 53) 42 rfl qL.toN 1 _ rfl ⟨_,_,_,_,_,d0,⟨Q,9,.slice sW q cW,q,tZ ((wP pr la m).take q),1⟩,1,q+1,_,rfl,rfl,rfl,rfl,h7,?z1,rfl,?z2,?z3,?z4,?_⟩
  case z1=>intro v hv;simp only[List.mem_cons,List.not_mem_nil,or_false]at hv;subst hv;rfl
  case z2=>unfold maxLen;omega
  case z3=>show (q+1)*16<=140737488355328;omega
  case z4=>exact b5
  intro sU' cU' wM c9;have h8:=Kh (d3.out wM 1 ⟨Q,9,.slice sW q cW,q,tZ ((wP pr la m).take q),1⟩ (.slice sU' (q+1) cU') (q+1) [.string sw] rfl c9);have CM:Hid (wM.cell? ⟨o,2,none⟩=some (.slice sW q cW)/\wM.cell? ⟨b8,0,none⟩=some (.int .i64 n)/\wM.cell? ⟨b8,1,none⟩=some (.bool true)/\wM.cell? ⟨b8,2,none⟩=some (.slice gA gN gC)/\wM.cell? ⟨b8,3,none⟩=some (.slice (some ⟨eb,eo,none⟩) m cE)/\wM.cell? ⟨b8,4,none⟩=some (.slice pA m pC)/\wM.cell? ⟨b8,5,none⟩=some (.slice lA m lC)/\wM.cell? ⟨b8,6,none⟩=some (.slice rA m rC)/\wM.cell? ⟨b8,7,none⟩=some (.slice uA uN uC)/\wM.cell? ⟨b8,8,none⟩=some (.int .i64 m)):=Kh (H1.out wM _ h8.out);refine hK.out _ _ ⟨trivial,fun _=>CM.out⟩ ?_;clear hK K C9 a2 d0 b5 d3 h7 H0 c9
  try simp only[Act.put,sPa,sPb,sPc]
  refine zL 7 ⟨trivial,fun _=>CM.out⟩ ?_;refine oneG (i:=8) (by kernel_rfl) rfl (fun K hK=>?_);have q7:=zF h8.out.box 2;simp only[List.getElem_toArray,List.getElem_cons_zero,List.getElem_cons_succ]at q7;have f7:=zA h8.out.box 2;go_simp;refine hK.out _ _ ⟨trivial,fun h=>by simp at h⟩ ?_;clear hK K q7 f7 CM
  try simp only[Act.put,sPa,sPb,sPc]
  refine tY (by kernel_rfl) ?_ _;refine NoPanic.normal ?_;obtain⟨wZ,b6⟩:=Nm (wM.setCell ⟨o,2,none⟩ (.slice sU' (q+1) cU'));have h4:=h8.out.set 2 (.slice sU' (q+1) cU');rw[<-b6]at h4⊢;simp only[sPa,sPb,sPc,i6.out]at h4;have e6:=Kh h4;clear h4 b6 h8;obtain⟨sW2,rfl⟩:=Nm (sU':Option Addr);obtain⟨cW2,rfl⟩:=Nm (cU':Nat);obtain⟨wr2,rfl⟩:=Nm (wZ:World);have o6:=e6;have x1:=Kh o6.out.grown;clear e6 H1 d2 HS d5 e5 o3 i6;have H1:Hid (∀(W:World) (rs:List RowS),BoxS Q X o 44 w5 w6 rs #[.int .i64 gs.length,.slice sT m cT,.slice sW2 (q+1) cW2,.slice none 0 0,.slice sA q cA,.slice (some ⟨gp,0,none⟩) m m] W->W.cell? ⟨o,4,none⟩=some (.slice sA q cA)/\W.cell? ⟨xb,xo+st,none⟩=some (.int .i64 (y:Int))/\W.cell? ⟨fb,fo+y,none⟩=some (.bool bb)):=Kh (fun W rs hS=>⟨(zV hS.box).2.2.2.2.1,zJ t4.out (zC b0.out hS.grown),zJ y7.out (zC i9.out hS.grown)⟩);obtain⟨w7,H2⟩:=Nm wr2.drew;have H6:wr2.grownBy w7 none:=(by rw[H2];exact zY wr2 none);have e5:=Kh H2;have d5:=Kh H6;clear H2 H6;go_upto_region 9 with fail;refine wp_region_noPanic ?_;refine yK (G:=xU 12 (fun _=>True) (fun W=>W.cell? ⟨o,4,none⟩=some (.slice sA q cA)/\W.cell? ⟨xb,xo+st,none⟩=some (.int .i64 (y:Int))/\W.cell? ⟨fb,fo+y,none⟩=some (.bool bb))) (by kernel_rfl) ?_;rw[<-e5.out];have a3:=Kh (o6.out.grow d5.out);have C:Hid (w7.cell? ⟨o,4,none⟩=some (.slice sA q cA)/\w7.cell? ⟨xb,xo+st,none⟩=some (.int .i64 (y:Int))/\w7.cell? ⟨fb,fo+y,none⟩=some (.bool bb)):=Kh (H1.out w7 _ a3.out);refine zL 0 ⟨trivial,fun _=>C.out⟩ ?_;refine yV 1 ⟨trivial,fun _=>C.out⟩ ?_;refine zL 2 ⟨trivial,fun _=>C.out⟩ ?_;refine zL 3 ⟨trivial,fun _=>C.out⟩ ?_;refine zL 4 ⟨trivial,fun _=>C.out⟩ ?_;refine zL 5 ⟨trivial,fun _=>C.out⟩ ?_;refine yV 6 ⟨trivial,fun _=>C.out⟩ ?_;refine zL 7 ⟨trivial,fun _=>C.out⟩ ?_;refine yV 8 ⟨trivial,fun _=>C.out⟩ ?_;refine oneG (i:=9) (by kernel_rfl) rfl (fun K hK=>?_);go_simp;have H0:=heap_alloc_new w7 (.cells #[.bool bb] 4);have H5:=Ga w7 (.cells #[.bool bb] 4) none;obtain⟨gR,c8⟩:=Nm w7.heap.size;obtain⟨w9,b7⟩:=Nm (w7.alloc (.cells #[.bool bb] 4));rw[<-c8]at H0⊢;rw[<-b7]at H0 H5⊢;have a2:=Kh (a3.out.grow H5);have C9:Hid (w9.cell? ⟨o,4,none⟩=some (.slice sA q cA)/\w9.cell? ⟨xb,xo+st,none⟩=some (.int .i64 (y:Int))/\w9.cell? ⟨fb,fo+y,none⟩=some (.bool bb)):=Kh (H1.out w9 _ a2.out);refine hK.out _ _ ⟨trivial,fun _=>C9.out⟩ ?_;clear hK K C a3 c8 b7 H5
  try simp only[Act.put,sPa,sPb,sPc]
  obtain⟨d0,b5,h3⟩:=a2.out.push;have d3:=Kh h3;have h7:=dE H0;clear h3;refine oneG (i:=10) (by kernel_rfl) rfl (fun K hK=>?_);refine pG rfl (.tmp 57) (.tmp 65) 26 rfl wN.toN 2 _ rfl ⟨_,_,_,_,_,d0,⟨Q,4,.slice sA q cA,q,bls ((accE fin st el).take q),1⟩,1,q+1,_,rfl,rfl,rfl,rfl,h7,?z1,rfl,?z2,?z3,?z4,?_⟩
  case z1=>intro v hv;simp only[List.mem_cons,List.not_mem_nil,or_false]at hv;subst hv;rfl
  case z2=>unfold maxLen;omega
  case z3=>show (q+1)*1<=140737488355328;omega
  case z4=>exact b5
  intro sU' cU' wM c9;have h8:=Kh (d3.out wM 2 ⟨Q,4,.slice sA q cA,q,bls ((accE fin st el).take q),1⟩ (.slice sU' (q+1) cU') (q+1) [.bool bb] rfl c9);have CM:Hid (wM.cell? ⟨o,4,none⟩=some (.slice sA q cA)/\wM.cell? ⟨xb,xo+st,none⟩=some (.int .i64 (y:Int))/\wM.cell? ⟨fb,fo+y,none⟩=some (.bool bb)):=Kh (H1.out wM _ h8.out);refine hK.out _ _ ⟨trivial,fun _=>CM.out⟩ ?_;clear hK K C9 a2 d0 b5 d3 h7 H0 c9
  try simp only[Act.put,sPa,sPb,sPc]
  refine zL 11 ⟨trivial,fun _=>CM.out⟩ ?_;refine oneG (i:=12) (by kernel_rfl) rfl (fun K hK=>?_);have q7:=zF h8.out.box 4;simp only[List.getElem_toArray,List.getElem_cons_zero,List.getElem_cons_succ]at q7;have f7:=zA h8.out.box 4;go_simp;refine hK.out _ _ ⟨trivial,fun h=>by simp at h⟩ ?_;clear hK K q7 f7 CM
  try simp only[Act.put,sPa,sPb,sPc]
  refine tY (by kernel_rfl) ?_ _;refine NoPanic.normal ?_;obtain⟨wZ,b6⟩:=Nm (wM.setCell ⟨o,4,none⟩ (.slice sU' (q+1) cU'));have h4:=h8.out.set 4 (.slice sU' (q+1) cU');rw[<-b6]at h4⊢;simp only[sPa,sPb,sPc,l6.out]at h4;have e6:=Kh h4;clear h4 b6 h8;go_wp2;go_roundg (m-(q+1))
  case measure=>have:=d4.out;omega
  exact⟨q+1,sW2,cW2,sU',cU',by omega,by go_num,e6.out⟩
 have r3:m=q:=by have:=d4.out;omega
 subst r3;obtain⟨wo,rfl⟩:=Nm (wr:World);clear hq d2;go_wp2
 go_loopg [14,71] gs.length (fun gh v14 i wr=>∃(q:Nat) (sI:Option Addr) (cI:Nat),gh+q=gs.length/\i=.int .i64 q/\BoxS Q X o 44 w5 w6 [⟨Q,4,.slice (some ⟨gp,0,none⟩) m m,m,bls (List.replicate m false),1⟩,⟨Q,9,.slice sW m cW,m,tZ ((wP pr la m).take m),1⟩,⟨Q,4,.slice sA m cA,m,bls ((accE fin st el).take m),1⟩,⟨Q,3,.slice sI q cI,q,nats ((imgE gs el).take q),1⟩] #[.int .i64 gs.length,.slice sT m cT,.slice sW m cW,.slice sI q cI,.slice sA m cA,.slice (some ⟨gp,0,none⟩) m m] wr)
 case atStart=>exact⟨0,none,0,by omega,rfl,HS.out⟩
 obtain⟨q,sI,cI,c7,rfl,hS⟩:=hrel;have d4:=Kh c7;have HS:=Kh hS;have d2:=Kh hS.grown;clear c7 hS;by_cases hq:q<gs.length
 ·have m7:(q:Int)<gs.length:=by omega
  obtain⟨ga,gac,h6,h9⟩:=x8.out q hq;have k3:IsT n (gs.getD q []):=i8.out _ (uP hq);obtain⟨g0,i1⟩:=Nm (gs.getD q []);rw[<-i1]at h6 h9 k3;rw[k3.1]at h6 h9;have s5:=zJ h6 (zC i9.out d2.out)
  have n1:g0∈el:=by
   have:=b1.out;rw[<-HL.out]at this;rw[i1];exact this.image i8.out hq
  obtain⟨ig,k2⟩:=Nm (el.idxOf g0);have i6:Hid (nats ((imgE gs el).take q)++[.int .i64 ((ig:Nat):Int)]=nats ((imgE gs el).take (q+1))):=Kh (by rw[k2,i1];exact qHO hq)
  have y2:Hid (∀W:World,w5.grownBy W none->Calls Try.prog 64 #[.slice (some ⟨eb,eo,none⟩) m cE,.slice ga n gac] W fun e w'=>e=.returned (.int .i64 ((ig:Nat):Int))/\W.grownBy w' none):=Kh (fun W hg=>by
   have h5:=zC b0.out hg;have b2:=zC i9.out hg;have s6:=h9.row.kept b2 (by simp);refine(gF W.heap.size B W _ _ el g0 ((HE.out.kept h5 (by simp)).mono h5.size) s6).mono ?_;rintro e w' ⟨h1,md,h2⟩;rw[qKJ n1,<-k2]at h1
   exact⟨h1,by rw[h2];exact zT W md none⟩)
  have H1:Hid (∀(W:World) (rs:List RowS),BoxS Q X o 44 w5 w6 rs #[.int .i64 gs.length,.slice sT m cT,.slice sW m cW,.slice sI q cI,.slice sA m cA,.slice (some ⟨gp,0,none⟩) m m] W->W.cell? ⟨o,3,none⟩=some (.slice sI q cI)/\W.cell? ⟨b8,3,none⟩=some (.slice (some ⟨eb,eo,none⟩) m cE)):=Kh (fun W rs hS=>⟨(zV hS.box).2.2.2.1,(zU (zB b4.out hS.grown)).2.2.2.1⟩);clear h6 h9 k3 i1 n1 k2;obtain⟨w7,H2⟩:=Nm wr.drew;have H6:wr.grownBy w7 none:=(by rw[H2];exact zY wr none);have e5:=Kh H2;have d5:=Kh H6;clear H2 H6;go_upto_region 14 with fail;refine wp_region_noPanic ?_;refine yK (G:=xU 9 (fun _=>True) (fun W=>W.cell? ⟨o,3,none⟩=some (.slice sI q cI)/\W.cell? ⟨b8,3,none⟩=some (.slice (some ⟨eb,eo,none⟩) m cE))) (by kernel_rfl) ?_;rw[<-e5.out];have a3:=Kh (HS.out.grow d5.out);have C:Hid (w7.cell? ⟨o,3,none⟩=some (.slice sI q cI)/\w7.cell? ⟨b8,3,none⟩=some (.slice (some ⟨eb,eo,none⟩) m cE)):=Kh (H1.out w7 _ a3.out);refine zL 0 ⟨trivial,fun _=>C.out⟩ ?_;refine yV 1 ⟨trivial,fun _=>C.out⟩ ?_;refine zL 2 ⟨trivial,fun _=>C.out⟩ ?_;refine yV 3 ⟨trivial,fun _=>C.out⟩ ?_;refine zL 4 ⟨trivial,fun _=>C.out⟩ ?_;refine oneG (i:=5) (by kernel_rfl) rfl (fun K hK=>?_);go_simp
  go_at_call 64
  refine(y2.out w7 (zC d2.out d5.out)).mono ?_;rintro e w8 ⟨rfl,g1⟩;have e2:=Kh (a3.out.grow g1);have C8:Hid (w8.cell? ⟨o,3,none⟩=some (.slice sI q cI)/\w8.cell? ⟨b8,3,none⟩=some (.slice (some ⟨eb,eo,none⟩) m cE)):=Kh (H1.out w8 _ e2.out);refine hK.out _ _ ⟨trivial,fun _=>C8.out⟩ ?_;clear hK K C a3 g1
  try simp only[Act.put,sPa,sPb,sPc]
  refine oneG (i:=6) (by kernel_rfl) rfl (fun K hK=>?_);go_simp;have H0:=heap_alloc_new w8 (.cells #[.int .i64 ((ig:Nat):Int)] 3);have H5:=Ga w8 (.cells #[.int .i64 ((ig:Nat):Int)] 3) none;obtain⟨gR,c8⟩:=Nm w8.heap.size;obtain⟨w9,b7⟩:=Nm (w8.alloc (.cells #[.int .i64 ((ig:Nat):Int)] 3));rw[<-c8]at H0⊢;rw[<-b7]at H0 H5⊢;have a2:=Kh (e2.out.grow H5);have C9:Hid (w9.cell? ⟨o,3,none⟩=some (.slice sI q cI)/\w9.cell? ⟨b8,3,none⟩=some (.slice (some ⟨eb,eo,none⟩) m cE)):=Kh (H1.out w9 _ a2.out);refine hK.out _ _ ⟨trivial,fun _=>C9.out⟩ ?_;clear hK K C8 e2 c8 b7 H5
  try simp only[Act.put,sPa,sPb,sPc]
  obtain⟨d0,b5,h3⟩:=a2.out.push;have d3:=Kh h3;have h7:=dE H0;clear h3;refine oneG (i:=7) (by kernel_rfl) rfl (fun K hK=>?_);refine pG rfl (.tmp 76) (.tmp 81) 22 rfl yI.toN 3 _ rfl ⟨_,_,_,_,_,d0,⟨Q,3,.slice sI q cI,q,nats ((imgE gs el).take q),1⟩,1,q+1,_,rfl,rfl,rfl,rfl,h7,?z1,rfl,?z2,?z3,?z4,?_⟩
  case z1=>intro v hv;simp only[List.mem_cons,List.not_mem_nil,or_false]at hv;subst hv;rfl
  case z2=>unfold maxLen;omega
  case z3=>show (q+1)*8<=140737488355328;omega
  case z4=>exact b5
  intro sU' cU' wM c9;have h8:=Kh (d3.out wM 3 ⟨Q,3,.slice sI q cI,q,nats ((imgE gs el).take q),1⟩ (.slice sU' (q+1) cU') (q+1) [.int .i64 ((ig:Nat):Int)] rfl c9);have CM:Hid (wM.cell? ⟨o,3,none⟩=some (.slice sI q cI)/\wM.cell? ⟨b8,3,none⟩=some (.slice (some ⟨eb,eo,none⟩) m cE)):=Kh (H1.out wM _ h8.out);refine hK.out _ _ ⟨trivial,fun _=>CM.out⟩ ?_;clear hK K C9 a2 d0 b5 d3 h7 H0 c9
  try simp only[Act.put,sPa,sPb,sPc]
  refine zL 8 ⟨trivial,fun _=>CM.out⟩ ?_;refine oneG (i:=9) (by kernel_rfl) rfl (fun K hK=>?_);have q7:=zF h8.out.box 3;simp only[List.getElem_toArray,List.getElem_cons_zero,List.getElem_cons_succ]at q7;have f7:=zA h8.out.box 3;go_simp;refine hK.out _ _ ⟨trivial,fun h=>by simp at h⟩ ?_;clear hK K q7 f7 CM
  try simp only[Act.put,sPa,sPb,sPc]
  refine tY (by kernel_rfl) ?_ _;refine NoPanic.normal ?_;obtain⟨wZ,b6⟩:=Nm (wM.setCell ⟨o,3,none⟩ (.slice sU' (q+1) cU'));have h4:=h8.out.set 3 (.slice sU' (q+1) cU');rw[<-b6]at h4⊢;simp only[sPa,sPb,sPc,i6.out]at h4;have e6:=Kh h4;clear h4 b6 h8;go_wp2;go_roundg (gs.length-(q+1))
  case measure=>have:=d4.out;omega
  exact⟨q+1,sU',cU',by omega,by go_num,e6.out⟩
 have r5:q=gs.length:=by have:=d4.out;omega
 subst r5;obtain⟨w9,rfl⟩:=Nm (wr:World)
 have e4:BoxS Q X o 44 w5 w6 [⟨Q,4,.slice (some ⟨gp,0,none⟩) m m,m,bls (List.replicate m false),1⟩,⟨Q,9,.slice sW m cW,m,tZ (wP pr la m),1⟩,⟨Q,4,.slice sA m cA,m,bls (accE fin st el),1⟩,⟨Q,3,.slice sI gs.length cI,gs.length,nats (imgE gs el),1⟩] #[.int .i64 gs.length,.slice sT m cT,.slice sW m cW,.slice sI gs.length cI,.slice sA m cA,.slice (some ⟨gp,0,none⟩) m m] w9:=by
  have:=HS.out;rw[List.take_of_length_le (by rw[pL];exact Nat.le_refl _),List.take_of_length_le (by rw[lE,HL.out];exact Nat.le_refl _),List.take_of_length_le (by rw[mX];exact Nat.le_refl _)]at this;exact this
 have n7:TMat w9.heap.size w9 (.slice sT m cT) T:=(o4.out.kept e4.kept e4.wk).tmat;have o2:w9.ownsRow Q 3 1 (.slice sI gs.length cI) gs.length (nats (imgE gs el)):=e4.own (r:=⟨Q,3,.slice sI gs.length cI,gs.length,nats (imgE gs el),1⟩) (by simp);have d9:Enm gs n el pr la ri el.length:=by rw[HL.out];exact b1.out.toEnm
 have e9:∀x y,x<m->y<m->(T.getD x []).getD y 0<m:=fun x y hx hy=>by
  have:=(d9.tab i8.out (x:=x) (y:=y) (by rw[HL.out];exact hx) (by rw[HL.out];exact hy)).1;rw[HL.out,<-l8.out]at this;exact this
 have n8:Shape (tabI T):=by
  refine⟨by rw[xJ,d1.out];omega,by rw[xJ,d1.out];omega,fun x hx=>?_,fun x y hx hy=>?_,fun x y hx hy=>?_⟩
  ·rw[xJ,d1.out]at hx⊢
   rw[nZ,List.length_map,l8.out,tabE,zN (by simpa using hx)];simp[rowE]
  ·rw[lI];omega
  rw[xJ,d1.out]at hx hy⊢;rw[lI];have:=e9 x y hx hy;omega
 have n2:∀g∈imgE gs el,g<(tabI T).length:=fun g hg=>by
  obtain⟨f,hf,rfl⟩:=List.mem_map.1 hg;obtain⟨i,hi,rfl⟩:=List.getElem_of_mem hf;have:=d9.image i8.out hi;rw[zN hi]at this;rw[xJ,d1.out,<-HL.out];exact List.idxOf_lt_length_of_mem this
 have y0:=Kh (cJ w9.heap.size w9.heap.size w9 (.slice sT m cT) (.slice sI gs.length cI) (tabI T) (imgE gs el) (Nat.le_refl _) (Nat.le_refl _) n7.mat n8 (Row.of_owns o2) n2);have x2:=Kh e4;obtain⟨c0,c1,c2,c3,c4,c5⟩:=zV e4.box;clear e4 n7 o2 d9 e9 n8 n2 HS d2 hq c0 c2 c4 c5;go_wp2_with fail;refine y0.out.mono ?_;rintro e w7 ⟨mm,n3,n4,⟨sG,sGc,rfl,d7⟩,H6⟩;obtain⟨L,hL⟩:=Nm (nD (metL (tabI T).length mm));rw[<-hL]at d7⊢
 have g7:∀x∈L,x<m:=fun x hx=>by
  rw[hL]at hx;have:=qKC hx;rw[xN,xJ,d1.out]at this;exact this
 have A4:L.length<=m:=by
  rw[hL,nD,xN,xJ,d1.out];exact Nat.le_trans (List.length_filter_le _ _) (by simp)
 have o5:=Kh (x2.out.add H6 d7 (by decide));obtain⟨x9,y5,x7,x6⟩:=K4 n3 n4 hL g7;clear n3 n4 hL g7 d7 H6 c1 c3;go_wp2
 go_loopg [16,91] L.length (fun gh v16 i wr=>∃(q:Nat),gh+q=L.length/\i=.int .i64 q/\BoxS Q X o 44 w5 w6 [⟨Q,4,.slice (some ⟨gp,0,none⟩) m m,m,bls (mN m (L.take q)),1⟩,⟨Q,9,.slice sW m cW,m,tZ (wP pr la m),1⟩,⟨Q,4,.slice sA m cA,m,bls (accE fin st el),1⟩,⟨Q,3,.slice sI gs.length cI,gs.length,nats (imgE gs el),1⟩,⟨Q,3,.slice sG L.length sGc,L.length,nats L,1⟩] #[.int .i64 gs.length,.slice sT m cT,.slice sW m cW,.slice sI gs.length cI,.slice sA m cA,.slice (some ⟨gp,0,none⟩) m m] wr)
 case atStart=>exact⟨0,by omega,rfl,o5.out⟩
 obtain⟨q,c7,rfl,hS⟩:=hrel;have d4:=Kh c7;have HS:=Kh hS;clear c7 o5;by_cases hq:q<L.length
 ·have m7:(q:Int)<L.length:=by omega
  have m8:wr.ownsRow Q 3 1 (.slice sG L.length sGc) L.length (nats L):=hS.own (r:=⟨Q,3,.slice sG L.length sGc,L.length,nats L,1⟩) (by simp);obtain⟨lb,rfl,z6,s0,o1⟩:=yY m8 (by omega);have r8:=o1.nat q hq;obtain⟨x,hx⟩:=Nm (L.getD q 0);have e8:x<m:=(by rw[hx];exact x6.out _ (uP hq));rw[<-hx]at r8;have m9:wr.ownsRow Q 4 1 (.slice (some ⟨gp,0,none⟩) m m) m (bls (mN m (L.take q))):=hS.own (r:=⟨Q,4,.slice (some ⟨gp,0,none⟩) m m,m,bls (mN m (L.take q)),1⟩) (by simp);obtain⟨gp',he,_,_,l5⟩:=yY m9 (by omega);have he:gp=gp':=by simpa using he
  subst he;have s4:=l5.bool x (by rw[kZ];exact e8);have z8:=l5.frozen x;have j3:(x:Int)<m:=(by omega);have r9:sGc<=9223372036854775807:=by unfold maxLen at s0;omega
  obtain⟨c0,c1,c2,c3,c4,c5⟩:=zV hS.box
  have x4:Hid (mN m (L.take (q+1))=(mN m (L.take q)).set x true):=Kh (by
   rw[yF (d:=0) hq,qDR,hx])
  have l1:=hS.put (j:=0) rfl e8 (.bool true);rw[qBS,<-x4.out]at l1;have x0:=Kh l1;clear hS m8 o1 hx m9 l5 l1 c0 c1 c2 c3 c4;go_wp2;go_roundg (L.length-(q+1))
  case measure=>have:=d4.out;omega
  exact⟨q+1,by omega,by go_num,x0.out⟩
 have r4:q=L.length:=by have:=d4.out;omega
 subst r4;have h0:=zB m2.out hS.grown (by have:=o9.out;have:=p6.out;simp);obtain⟨c0,c1,c2,c3,c4,c5⟩:=zV hS.box;obtain⟨p0,p1,p2,p3,p4,p5⟩:=zV h0;have f0:=zA h0 0;have f1:=zA h0 1;have f2:=zA h0 2;have f3:=zA h0 3;have f4:=zA h0 4;have f5:=zA h0 5;have g8:=Kh h0;have A2:P≠o:=(by have:=o9.out;have:=p6.out;have:=HQ.out;omega);clear hS h0;go_wp2;refine bodyPost_ret (v:=.tuple #[.agg #[.int .i64 gs.length,.slice sT m cT,.slice sW m cW,.slice sI gs.length cI,.slice sA m cA,.slice (some ⟨gp,0,none⟩) m m],.int .i64 0]) (by simp[results,Try.results38,go_sem,p0,p1,p2,p3,p4,p5]) rfl ?_;obtain⟨m4,H4⟩:=vZ g8.out (.int .i64 gs.length) (.slice sT m cT) (.slice sW m cW) (.slice sI gs.length cI) (.slice sA m cA) (.slice (some ⟨gp,0,none⟩) m m);have h4:=HS.out;have s1:xQ X wr _:=xQ.of_grown h4.mem.lt H4 (fun j e hx=>by have e:P=j:=Oj e;subst e;exact t5.out hx);have oW:wr.ownsRow Q 9 1 (.slice sW m cW) m (tZ (wP pr la m)):=h4.own (r:=⟨Q,9,.slice sW m cW,m,tZ (wP pr la m),1⟩) (by simp);have oA:wr.ownsRow Q 4 1 (.slice sA m cA) m (bls (accE fin st el)):=h4.own (r:=⟨Q,4,.slice sA m cA,m,bls (accE fin st el),1⟩) (by simp);have oI:wr.ownsRow Q 3 1 (.slice sI gs.length cI) gs.length (nats (imgE gs el)):=h4.own (r:=⟨Q,3,.slice sI gs.length cI,gs.length,nats (imgE gs el),1⟩) (by simp);have oG:wr.ownsRow Q 4 1 (.slice (some ⟨gp,0,none⟩) m m) m (bls (mN m (L.take L.length))):=h4.own (r:=⟨Q,4,.slice (some ⟨gp,0,none⟩) m m,m,bls (mN m (L.take L.length)),1⟩) (by simp);rw[List.take_length]at oG;refine .inr ⟨⟨gs.length,T,wP pr la m,imgE gs el,accE fin st el,mN m L⟩,_,rfl,⟨el,pr,la,ri,mm,by rw[HL.out];exact b1.out,by rw[HL.out];omega,rfl,by rw[HL.out];exact l8.out,by rw[HL.out],rfl,rfl,x9.out,y5.out,?_⟩,⟨_,_,_,_,_,rfl,?_,?_,?_,?_,?_⟩,?_⟩
 ·rw[HL.out,x7.out,xJ,d1.out]
 ·exact(o4.out.kept (h4.kept.trans s1) (Nat.le_trans h4.wk H4.size)).tmatT
 ·exact RowT.of_owns (oW.kept H4 (.inr (zS oW g8.out (by decide))))
 ·exact RowT.of_owns (oI.kept H4 (.inr (zS oI g8.out (by decide))))
 ·exact RowT.of_owns (oA.kept H4 (.inr (zS oA g8.out (by decide))))
 ·exact RowT.of_owns (oG.kept H4 (.inr (zS oG g8.out (by decide))))
 exact yN (zC i9.out h4.grown) H4 (by show _<=P;have:=i7.out;omega)
open Go.Maps
section
variable {w0 w w':World} {B o n k m d s ub:Nat} {sG:Option Addr} {cG:Nat} {hsG:List Value} {gs els right:List (List Nat)} {pre las beh:List Int} {sgl:List Nat} {tl:List RowS}
theorem RunS.read (h:RunS w0 B o n k m d s ub sG cG hsG gs els pre las right beh sgl tl w):∃(u mb cE cP cL cR cU cW cB cS:Nat) (sE sP sL sR sU sW sB sS:Option Addr),w.heap[o]?=some (.cells #[.int .i64 (n:Int),.bool true,.slice sG k cG,.slice sE m cE,.slice sP m cP,.slice sL m cL,.slice sR d cR,.slice sU u cU,.int .i64 (d:Int),.map (some mb),.slice sW m cW,.slice sB m cB,.slice sS s cS] 114 (0,0))/\oM w.heap.size w (.slice sE m cE) els/\RowT w.heap.size 3 w (.slice sP m cP) (ints pre)/\RowT w.heap.size 3 w (.slice sL m cL) (ints las)/\oM w.heap.size w (.slice sR d cR) right:=by
 obtain⟨X,mb,u,us,h1,h0,ws,sE,sP,sL,sR,sU,sW,sB,sS,cE,cP,cL,cR,cU,cW,cB,cS,hB,hE,hR,hG,⟨c,hM⟩,h2,h3,hl,h4,hw,hu⟩:=h;have oE:=hB.own (r:=⟨B,22,.slice sE m cE,m,h1,1⟩) (by simp);have oP:=hB.own (r:=⟨B,3,.slice sP m cP,m,ints pre,1⟩) (by simp);have oL:=hB.own (r:=⟨B,3,.slice sL m cL,m,ints las,1⟩) (by simp);have oR:=hB.own (r:=⟨B,22,.slice sR d cR,d,h0,1⟩) (by simp);exact⟨u,mb,cE,cP,cL,cR,cU,cW,cB,cS,sE,sP,sL,sR,sU,sW,sB,sS,hB.box,⟨h1,RowT.of_owns oE,hE.rowsT⟩,RowT.of_owns oP,RowT.of_owns oL,⟨h0,RowT.of_owns oR,hR.rowsT⟩⟩
end
def qOY (gs:List (List Nat))(n:Nat)(w:World)(e:Ending)(w':World):Prop :=
 (e=.returned (.tuple #[.agg #[.int .i64 0,.bool false,.slice none 0 0,.slice none 0 0,.slice none 0 0,.slice none 0 0,.slice none 0 0,.slice none 0 0,.int .i64 0],.int .i64 3])/\oD gs (yJ gs n gs.length) n/\w.grownBy w' none) \/
 ∃(el:List (List Nat)) (pr la:List Int) (ri:List (List Nat)) (m u cG cE cP cL cR cU:Nat) (sG sE sP sL sR sU:Option Addr),
  e=.returned (.tuple #[.agg #[.int .i64 n,.bool true,.slice sG gs.length cG,.slice sE m cE,.slice sP m cP,.slice sL m cL,.slice sR m cR,.slice sU u cU,.int .i64 m],.int .i64 0])/\xT gs (yJ gs n gs.length) m=((el,pr,la),ri)/\(∀f∈el,IsT n f)/\el.length=m/\m<=2000 /\
  oM w'.heap.size w' (.slice sE m cE) el/\RowT w'.heap.size 3 w' (.slice sP m cP) (ints pr)/\RowT w'.heap.size 3 w' (.slice sL m cL) (ints la)/\oM w'.heap.size w' (.slice sR m cR) ri/\w.grownBy w' none
theorem qDT (B:Nat)(w:World)(v0:Value)(gs:List (List Nat))(n:Nat)(hB:B<=w.heap.size)(h:TMat B w v0 gs)(a6:∀g∈gs,IsT n g)(h1:1<=n)(a5:n<=32)(a7:1<=gs.length)(a9:gs.length<=6):Calls Try.prog 48 #[v0,.bool true] w (qOY gs n w):=by
 obtain⟨w1,H0⟩:=Nm (w.alloc (.cells #[.int .i64 0,.bool false,.slice none 0 0,.slice none 0 0,.slice none 0 0,.slice none 0 0,.slice none 0 0,.slice none 0 0,.int .i64 0] 90));have H1:w.grownBy w1 none:=by rw[H0];exact Ga w _ none
 have H2:=heap_alloc_new w (.cells #[.int .i64 0,.bool false,.slice none 0 0,.slice none 0 0,.slice none 0 0,.slice none 0 0,.slice none 0 0,.slice none 0 0,.int .i64 0] 90);rw[<-H0]at H2;have a0:=Kh (qDU B w1 v0 gs n (Nat.le_trans hB H1.size) (h.kept H1 (by simp)) a6 h1 a5 a7 a9);obtain⟨P,hP⟩:=Nm w.heap.size;obtain⟨k,hk⟩:=Nm gs.length;obtain⟨a1,d0,b7,d6,HK⟩:=K5 hP H0 H1 a6 hk;rw[<-hP]at H2;have H4:=Kh H2;rw[<-hk]at a0 a7 a9;clear H0 H1 H2 a6 h hk;go_enter Try.func48,Try.ntmps48;go_upto_region 1 with fail;rw[<-d0.out,<-a1.out];clear hP;go_wp2_with fail;refine a0.out.mono ?_;rintro e w2 ⟨o,m0,cG,sG,b9,els0,pre0,las0,beh0,sgl0,rfl,h2,h6,H6⟩;have e5:=Kh (zB H4.out H6);obtain⟨b4,b5,e3⟩:=K3 h2 h6 H6;have e0:P<w1.heap.size:=zR H4.out;clear h2 h6 H6 a0;go_wp2
 go_loopg [8] 2000 (fun gh a8 wr=>∃(d m ub:Nat) (els right:List (List Nat)) (pre las beh:List Int) (sgl:List Nat),gh+d=2000/\ub<=6+6*d/\RunS w1 w1.heap.size o n k m d k ub sG cG b9 gs els pre las right beh sgl [] wr/\PEn gs n k d m els pre las right beh sgl)
 case atStart=>exact⟨0,m0,6,_,_,_,_,_,_,rfl,Nat.le_refl _,b4.out,b5.out⟩
 clear b4 b5;obtain⟨d,m,ub,els,right,pre,las,beh,sgl,b2,d8,h2,h6⟩:=hrel;have d9:=h6.dle;have c9:=h6.mle;obtain⟨b6,HR,HP⟩:=K3 b2 h2 h6;have e2:=Kh h2.facts.1;have h7:=Kh (qJO h2 (by omega));clear h2 h6 b2;by_cases hd:d=m
 ·subst hd
  rw[decide_eq_true rfl]at h7;go_wp2_with fail;refine h7.out.mono ?_;rintro e w3 ⟨rfl,q,rfl⟩;have H5:=HR.out.grow (zT wr q none);have h4:=H5.facts.1;obtain⟨u,mb,cE,cP,cL,cR,cU,cW,cB,cS,sE,sP,sL,sR,sU,sW,sB,sS,h3,hE,H8,H9,H7⟩:=H5.read;obtain⟨w4,a4⟩:=Nm (wr.drewN q);rw[<-a4]at h4 h3 hE H8 H9 H7⊢;have h0:=zB H4.out h4;have H3:=Kh h0;have a3:=Kh (zC b7.out h4);obtain⟨HE,d3,d5,d1,e4⟩:=K5 hE H8 H9 H7 h3;have c0:=zF h3 0;have c1:=zF h3 1;have c2:=zF h3 2;have c3:=zF h3 3;have c4:=zF h3 4;have c5:=zF h3 5;have c6:=zF h3 6;have c7:=zF h3 7;have c8:=zF h3 8;simp only[List.getElem_toArray,List.getElem_cons_zero,List.getElem_cons_succ]at c0 c1 c2 c3 c4 c5 c6 c7 c8;obtain⟨p0,p1,p2,p3,p4,p5,p6,p7,p8⟩:=zU h0;have f0:=zA h0 0;have f1:=zA h0 1;have f2:=zA h0 2;have f3:=zA h0 3;have f4:=zA h0 4;have f5:=zA h0 5;have f6:=zA h0 6;have f7:=zA h0 7;have f8:=zA h0 8;clear H5 h4 h3 hE H8 H9 H7 a4 h0 h7 HR;go_wp2;refine bodyPost_ret (v:=.tuple #[.agg #[.int .i64 n,.bool true,.slice sG k cG,.slice sE d cE,.slice sP d cP,.slice sL d cL,.slice sR d cR,.slice sU u cU,.int .i64 d],.int .i64 0]) (by simp[results,Try.results48,go_sem,p0,p1,p2,p3,p4,p5,p6,p7,p8]) rfl ?_;obtain⟨b8,h5⟩:=rE H3.out (.int .i64 n) (.bool true) (.slice sG k cG) (.slice sE d cE) (.slice sP d cP) (.slice sL d cL) (.slice sR d cR) (.slice sU u cU) (.int .i64 d)
  have h8:∀e',e'≠90->∀j,(some P:Option Nat)=some j->w4.heap.size<=j\/xI w4 e' j:=fun e' he j hj=>by
   have hj:=Oj hj;subst hj;exact .inr ⟨_,_,_,H3.out,fun e1=>he e1.symm⟩
  have hz:=h5.size;exact .inr ⟨els,pre,las,right,d,u,cG,cE,cP,cL,cR,cU,sG,sE,sP,sL,sR,sU,by rw[HK.out],by rw[<-HK.out];exact HP.out.proc,HP.out.it,HP.out.len,c9,(HE.out.kept h5 (h8 _ (by decide)) (h8 _ (by decide))).mono hz,(d3.out.kept h5 (h8 _ (by decide))).mono hz,(d5.out.kept h5 (h8 _ (by decide))).mono hz,(d1.out.kept h5 (h8 _ (by decide)) (h8 _ (by decide))).mono hz,yN a3.out h5 (by show _<=P;have:=a1.out;omega)⟩
 rw[decide_eq_false hd]at h7;go_wp2_with fail;refine h7.out.mono ?_;rintro e w3 ⟨rfl,q,rfl⟩;have a2:=Kh (qGA (HR.out.grow (zT wr q none)) HP.out (by omega) d6.out h1 a5 a7 a9 (by omega));go_wp2_with fail;refine a2.out.mono ?_;rintro e w4 (⟨rfl,b3,h9⟩|⟨m',els',pre',las',beh',row,rfl,b0,b1,h9⟩)
 ·have h0:=zB H4.out h9
  have H3:=Kh h0;have a3:=Kh (zC b7.out h9);have d7:=Kh b3;obtain⟨p0,p1,p2,p3,p4,p5,p6,p7,p8⟩:=zU h0;have f0:=zA h0 0;have f1:=zA h0 1;have f2:=zA h0 2;have f3:=zA h0 3;have f4:=zA h0 4;have f5:=zA h0 5;have f6:=zA h0 6;have f7:=zA h0 7;have f8:=zA h0 8;clear b3 h9 h0 a2 HR h7;go_wp2;refine bodyPost_ret (v:=.tuple #[.agg #[.int .i64 0,.bool false,.slice none 0 0,.slice none 0 0,.slice none 0 0,.slice none 0 0,.slice none 0 0,.slice none 0 0,.int .i64 0],.int .i64 3]) (by simp[results,Try.results48,go_sem,p0,p1,p2,p3,p4,p5,p6,p7,p8]) rfl ?_;obtain⟨b8,h5⟩:=rE H3.out (.int .i64 0) (.bool false) (.slice none 0 0) (.slice none 0 0) (.slice none 0 0) (.slice none 0 0) (.slice none 0 0) (.slice none 0 0) (.int .i64 0);exact .inl ⟨rfl,by rw[<-HK.out];exact d7.out,yN a3.out h5 (by show _<=P;have:=a1.out;omega)⟩
 have d2:=Kh b0;have d4:=Kh b1;clear b0 b1 h9 a2 HR h7;go_wp2;go_roundg (2000-(d+1))
 case measure=>have:=b6.out;omega
 exact⟨d+1,m',ub+6,els',right++[row],pre',las',beh',sgl,by have:=b6.out;omega,by omega,d2.out,d4.out⟩
def zl (l:List Nat):List Int:=l.map fun(x:Nat)=>(x:Int)
theorem cZ {l : List Nat}{x : Nat}: ((x : Nat) : Int) ∈ zl l ↔ x ∈ l := by
  simp only [zl, List.mem_map]
  exact ⟨fun ⟨y, hy, e⟩ => by have : y = x := by omega
                              exact this ▸ hy, fun h => ⟨x, h, rfl⟩⟩
theorem qNO {l:List Nat}{x:Nat}(h:x∈l):(zl l).idxOf ((x:Nat):Int)=l.idxOf x:=cH (fun(x:Nat)=>(x:Int)) l x h (fun y _ e=>by omega)
theorem qLQ (l:List Nat):(zl l).length=l.length:=by simp[zl]
theorem qMA (l:List Nat)(x:Nat):zl (l++[x])=zl l++[(x:Int)]:=by simp[zl]
def NF (o:Nat)(sa:Option Addr)(mv:Option Nat)(k:Nat):Prop:=k=o\/(Value.slice sa 0 0).ownBlock=some k\/mv=some k
structure NumSt (base:Nat)(W:World)(o:Nat)(sa:Option Addr)(sc:Nat)(mv:Option Nat)(l:List Nat):Prop where
 box:W.heap[o]?=some (.cells #[.slice sa l.length sc,.map mv] 141 (0,0))
 own:W.ownsRow base 3 1 (.slice sa l.length sc) l.length (nats l)
 map:(mv=none/\l=[])\/∃mb,mv=some mb/\base<=mb/\mb≠o/\(Value.slice sa 0 0).ownBlock≠some mb/\mb<W.heap.size/\sZ W mb l.length (zl l)
 lo:base<=o
theorem NumSt.ge {base:Nat}{W:World}{o:Nat}{sa:Option Addr}{sc:Nat}{mv:Option Nat}{l:List Nat}(h:NumSt base W o sa sc mv l):∀k,NF o sa mv k->base<=k/\k<W.heap.size:=by
 rintro k (rfl|hk|hk)
 ·exact⟨h.lo,zR h.box⟩
 ·rw[<-yG sa l.length sc]at hk;exact h.own.lt k hk
 rcases h.map with ⟨e,_⟩|⟨mb,e,h1,_,_,h2,_⟩
 ·rw[e]at hk;cases hk
 rw[e]at hk;have:=Oj hk;subst this;exact⟨h1,h2⟩
theorem NumSt.kept {base:Nat}{W W':World}{o:Nat}{sa:Option Addr}{sc:Nat}{mv:Option Nat}{l:List Nat}{row:Option Nat}(h:NumSt base W o sa sc mv l)(hg:W.grownBy W' row)(hr:∀k,row=some k->¬NF o sa mv k):NumSt base W' o sa sc mv l where
 box:=zB h.box hg (fun e=>hr o e (.inl rfl))
 own:=h.own.kept hg (by
  rcases hv:(Value.slice sa l.length sc).ownBlock with _|k
  ·exact .inl rfl
  ·exact .inr fun e=>hr k e.symm (.inr (.inl (by rw[yG]at hv;exact hv))))
 map:=by
  rcases h.map with h|⟨mb,e,h1,h2,h3,h4,h5⟩
  ·exact .inl h
  ·exact .inr ⟨mb,e,h1,h2,h3,Nat.lt_of_lt_of_le h4 hg.size,h5.kept hg (fun e2=>hr mb e2 (.inr (.inr e)))⟩
 lo:=h.lo
def qIN (base:Nat)(W:World)(o:Nat)(sa:Option Addr)(mv:Option Nat)(l:List Nat)(x:Nat)(e:Ending)(W':World):Prop :=
 ∃sa' sc' mv',e=.returned (.int .i64 (((xY l x).idxOf x:Nat):Int))/\NumSt base W' o sa' sc' mv' (xY l x)/\GrownBut W W' (NF o sa mv)/\∀k,NF o sa' mv' k->NF o sa mv k\/W.heap.size<=k
theorem fH {l:List Nat}{x:Nat}(h:x ∉ l):(xY l x).idxOf x=l.length:=by
 rw[wX h,List.idxOf_append,if_neg h];simp
theorem uY {w:World}{p e:Nat}{x0 x1:Value}(h:w.heap[p]?=some (.cells #[x0,x1] e (0,0))):w.cell? ⟨p,0,none⟩=some x0/\w.cell? ⟨p,1,none⟩=some x1:=by
 have c0:=zF h 0;have c1:=zF h 1;exact⟨by simpa using c0,by simpa using c1⟩
theorem aH {base:Nat}{W w2 w3:World}{o mb:Nat}{sa a9:Option Addr}{sc a8:Nat}{mv:Option Nat}{l:List Nat}{x:Nat}(h0:base<=o)(hx:x ∉ l)(b9:w2.heap[o]?=some (.cells #[.slice sa l.length sc,.map (some mb)] 141 (0,0)))(a1:mb≠o)(a5:base<=mb)(a4:(Value.slice sa 0 0).ownBlock≠some mb)(a2:sZ w2 mb (l.length+1) (zl l++[(x:Int)]))(a0:(Value.slice sa 0 0).ownBlock≠some o)(a7:w3.ownsRow base 3 1 (.slice a9 (l.length+1) a8) (l.length+1) (nats l++[.int .i64 (x:Int)]))(hg:w2.grownBy w3 (Value.slice sa l.length sc).ownBlock)(a3:lF w2 w3 (.slice sa l.length sc) (.slice a9 (l.length+1) a8))(hW:GrownBut W w2 (NF o sa mv))(a6:mv=some mb\/W.heap.size<=mb):qIN base W o sa mv l x (.returned (.int .i64 ((l.length:Nat):Int))) (w3.setCell ⟨o,0,none⟩ (.slice a9 (l.length+1) a8)):=by
 have h4:=zB b9 hg (fun e=>a0 (by rw[yG]at e;exact e));have hs:=heap_setCell_same w3 o 0 _ _ (.slice a9 (l.length+1) a8) h4;have h2:=zG w3 ⟨o,0,none⟩ (.slice a9 (l.length+1) a8);have h5:=a2.lt;have hz:=hg.size;have h6:=h2.size;have h1:(xY l x).length=l.length+1:=by rw[wX hx];simp
 have h3:(Value.slice a9 0 0).ownBlock≠some mb:=by
  intro e;rw[<-yG a9 (l.length+1) a8]at e;rcases a3 with h|⟨_,h⟩
  ·rw[h,yG]at e;exact a4 e
  have:=h mb e;omega
 refine⟨a9,a8,some mb,by rw[fH hx],⟨?_,?_,?_,h0⟩,?_,fun k hk=>?_⟩
 ·rw[h1,hs];simp
 ·rw[h1,wX hx,rK]
  exact a7.kept h2 (.inr (zS a7 h4 (by decide)))
 ·refine .inr ⟨mb,rfl,a5,a1,h3,by omega,?_⟩
  rw[h1,wX hx,qMA];refine(a2.kept hg (fun e=>a4 (by rw[yG]at e;exact e))).kept h2 (fun e=>a1 (Oj e).symm)
 ·refine(hW.step hg fun k hk=>?_).step h2 fun k hk=>?_
  ·rw[yG]at hk;exact .inl (.inr (.inl hk))
  exact .inl (.inl (Oj hk).symm)
 rcases hk with rfl|hk|hk
 ·exact .inl (.inl rfl)
 ·rw[<-yG a9 (l.length+1) a8]at hk
  rcases a3 with h|⟨_,h⟩
  ·rw[h,yG]at hk;exact .inl (.inr (.inl hk))
  exact .inr (Nat.le_trans hW.size (h k hk))
 have:=Oj hk;subst this;rcases a6 with h|h
 ·exact .inl (.inr (.inr h))
 exact .inr h
theorem aI (base:Nat)(W:World)(o:Nat)(sa:Option Addr)(sc:Nat)(mv:Option Nat)(l:List Nat)(x:Nat)(h:NumSt base W o sa sc mv l)(hb:base<=W.heap.size)(hl:l.length<=1073741824)(hx:x<4611686018427387904):Calls Try.prog 107 #[.pointer (some ⟨o,0,none⟩),.int .i64 (x:Int)] W (qIN base W o sa mv l x):=by
 have d3:=@run_makeMap Try.prog;have h8:Mid (x:Int):=⟨by omega,by omega⟩;have c8:∀W,(binOp .eql 100 (.map none) (.map none)).run Try.prog W=.ok (.bool true) W:=fun W=>run_eql_map_nil W _ _ _ none sX;have c7:∀W mb,(binOp .eql 100 (.map (some mb)) (.map none)).run Try.prog W=.ok (.bool false) W:=fun W mb=>run_eql_map_nil W _ _ _ (some mb) sX;obtain⟨c0,c1⟩:=uY h.box;have f0:=zA h.box 0;have f1:=zA h.box 1
 have a7:(Value.slice sa 0 0).ownBlock≠some o:=by
  intro e;rw[<-yG sa l.length sc]at e;exact zS h.own h.box (by decide) e
 obtain⟨H,H3,h3⟩:=K3 h a7 h8;clear a7 h8;rcases h.map with ⟨rfl,rfl⟩|⟨mb,rfl,hmb0,hmb,hsm,hml,hmp⟩
 ·have h9:(Instr.lookup 100 (.map none) (.int .i64 (x:Int)) true).run Try.prog W=.ok (.tuple #[.int .i64 0,.bool false]) W:=Maps.look_nil true cC sX (jS W) (qAZ h3.out)
  obtain⟨w1,h7⟩:=Nm (W.setCell ⟨o,1,none⟩ (.map (some W.heap.size)));have H6:=zG W ⟨o,1,none⟩ (.map (some W.heap.size))
  have a8:w1.heap[o]?=some (.cells #[.slice sa ([]:List Nat).length sc,.map (some W.heap.size)] 141 (0,0)):=by
   rw[h7,heap_setCell_same W o 1 _ _ _ h.box];simp
  have a6:w1.heap.size=W.heap.size:=by rw[h7];simp[World.setCell]
  rw[<-h7]at H6;obtain⟨ws,H7⟩:=Nm (w1.alloc (.map #[] 0));have H0:=Ga w1 (.map #[] 0) none;have H4:=Kh (sZ.made w1);rw[<-H7]at H0 H4;rw[a6]at H4;have d4:=zR h.box;have a5:=Kh (zB a8 H0);have b7:=Kh H7;have b8:=Kh h7;have c2:Hid (ws.ownsRow base 3 1 (.slice sa ([]:List Nat).length sc) ([]:List Nat).length (nats [])):=Kh (zX (h.own.kept H6 (.inr (by rw[yG];exact H3.out))) H0);have c3:Hid (GrownBut W ws (NF o sa none)):=Kh (((GrownBut.refl W _).step H6 (fun k hk=>.inl (.inl (Oj hk).symm))).step H0 (by simp));clear h a8 h7 H6 H7 H0 a6
  have h6:Hid ((Value.slice sa 0 0).ownBlock≠some W.heap.size):=Kh (fun e=>by
   rw[<-yG sa ([]:List Nat).length sc]at e
   have:=(H.out.own.lt _ e).2;omega)
  have d2:W.heap.size≠o:=by omega
  obtain⟨M,hM⟩:=Nm W.heap.size;have c6:=Kh hM;rw[<-hM]at H4 h6 a5;have a9:M≠o:=by omega
  have b5:base<=M:=by omega
  have b6:W.heap.size<=M:=by omega
  clear hM;go_enter Try.func107,Try.ntmps107;go_upto_region 5 with fail;rw[<-b8.out,<-b7.out,<-c6.out];clear c0 c1 f0 f1 h9;obtain⟨c0,c1⟩:=uY a5.out;have c9:=H4.out.lt;go_wp2_with (first|(at_mapUpdate;refine mA rfl _ _ _ rfl M 0 [] x rfl rfl rfl H4.out (by unfold maxLen;omega) h3.out (by simp) (by simp) ?_;intro w2 h0 h2;(have H9:=Kh h0);(have a4:=Kh h2);(have h4:=zB a5.out h2 (by simp;exact a9));(have H5:=Kh h4);(obtain⟨d0,d1⟩:=uY h4);(have e0:=zA h4 0);(have H8:=Kh (c2.out.kept h2 (.inr (by rw[yG];exact h6.out))));(have b4:=h2.size);clear h0 h4 h2)|(at_builtin;refine kD rfl _ _ _ rfl yI base (.slice sa ([]:List Nat).length sc) ([]:List Nat).length (nats []) rfl H8.out (.int .i64 (x:Int)) rfl rfl ?a1 ?a2 ?a3 ?_;(case a1=>(unfold maxLen;simp));(case a2=>simp);(case a3=>omega);intro sa3 sc3 w3 h1 H1 b3 h5;(have H2:=zB H5.out H1 (by rw[yG];exact H3.out));(obtain⟨b0,b1⟩:=uY H2);(have e3:=zA H2 0))|fail);go_ret;exact aH (l:=[]) H.out.lo (by simp) H5.out a9 b5 h6.out H9.out H3.out h1 H1 h5 (c3.out.step a4.out (fun k hk=>.inr (by have:=Oj hk;omega))) (.inr b6)
 clear h;by_cases hin:x∈l
 ·have h9:=hmp.lookup h3.out
  rw[if_pos (cZ.2 hin),decide_eq_true (cZ.2 hin),qNO hin]at h9;have a0:=Kh hin;clear hin hmp;go_enter Try.func107,Try.ntmps107;go_wp2;go_ret;have e:=tE a0.out;exact⟨sa,sc,some mb,yX (by rw[e]),by rw[e];exact H.out,GrownBut.refl _ _,fun k hk=>.inl hk⟩
 have h9:=hmp.lookup h3.out;rw[if_neg (fun hh=>hin (cZ.1 hh)),decide_eq_false (fun hh=>hin (cZ.1 hh))]at h9;have a0:=Kh hin;have c5:=Kh hmp;have c4:Hid ((x:Int) ∉ zl l):=Kh (fun hh=>hin (cZ.1 hh));have b2:=qLQ l;have h6:=Kh hsm;clear hin hmp hsm;have b9:=Kh H.out.own;go_enter Try.func107,Try.ntmps107;go_wp2_with (first|(at_mapUpdate;refine mA rfl _ _ _ rfl mb l.length (zl l) x rfl rfl ?q1 c5.out (by unfold maxLen;omega) h3.out c4.out (by omega) ?_;(case q1=>(rw[b2];rfl));intro w2 h0 h2;(have H9:=Kh h0);(have a4:=Kh h2);(have h4:=zB H.out.box h2 (by simp;exact hmb));(have H5:=Kh h4);(obtain⟨d0,d1⟩:=uY h4);(have e0:=zA h4 0);(have H8:=Kh (b9.out.kept h2 (.inr (by rw[yG];exact h6.out))));(have b4:=h2.size);clear h0 h4 h2)|(at_builtin;refine kD rfl _ _ _ rfl yI base (.slice sa l.length sc) l.length (nats l) rfl H8.out (.int .i64 (x:Int)) rfl rfl ?a1 ?a2 ?a3 ?_;(case a1=>(unfold maxLen;omega));(case a2=>omega);(case a3=>omega);intro sa3 sc3 w3 h1 H1 b3 h5;(have H2:=zB H5.out H1 (by rw[yG];exact H3.out));(obtain⟨b0,b1⟩:=uY H2);(have e3:=zA H2 0))|fail);go_ret;exact aH H.out.lo a0.out H5.out hmb hmb0 h6.out H9.out H3.out h1 H1 h5 ((GrownBut.refl W _).step a4.out (fun k hk=>.inl (.inr (.inr hk)))) (.inl rfl)
end Go.Proofs.Ytobakifdllameaa
