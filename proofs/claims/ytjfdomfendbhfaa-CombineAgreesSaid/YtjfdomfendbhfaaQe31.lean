/- Part 31 of the proof: Bld, Blk, DgR6. -/
import Derived.Test.YtjfdomfendbhfaaQe30
set_option linter.unusedVariables false
set_option linter.unusedSimpArgs false
namespace Go.Proofs.Ytjfdomfendbhfaa
open Go.RowKit Go.Maps
def qCF (c:ChoV):List Value:=[.int .i64 c.p,.int .i64 c.y,.int .i64 c.n]
def wJ (l:List ChoV):List Value:=l.flatMap qCF
theorem jP (l:List ChoV) (c:ChoV):wJ (l ++ [c])=wJ l ++ qCF c:=by simp[wJ]
theorem pS:∀ (l:List ChoV) (i:Nat) (h:i < l.length),(wJ l)[i * 3]?=some (.int .i64 l[i].p)/\(wJ l)[i * 3+1]?=some (.int .i64 l[i].y)/\(wJ l)[i * 3+2]?=some (.int .i64 l[i].n)
 | [],i,h=>by simp at h
 | x :: l,0,_=>⟨rfl,rfl,rfl⟩
 | x :: l,i+1,h=>by
  have h1:=pS l i (by simpa using h)
  rw[show wJ (x :: l)=.int .i64 x.p :: .int .i64 x.y :: .int .i64 x.n :: wJ l from rfl,show (i+1) * 3=i * 3+1+1+1 by omega,show i * 3+1+1+1+1=(i * 3+1)+1+1+1 by omega,show i * 3+1+1+1+2=(i * 3+2)+1+1+1 by omega]
  simpa using h1
theorem aS:ElemN Try.prog 23 45 3 (.agg #[.int .i64 0,.int .i64 0,.int .i64 0]) 24:=⟨by kernel_rfl,by kernel_rfl,by rfl,by decide⟩
theorem pC {base:Nat} {w:World} {v:Value} {l:List ChoV} {B:Nat} (h:w.ownsRow base 45 3 v l.length (wJ l)) (hB:w.heap.size<=B):sC B w v l:=by
 have h1:∀ g j,(⟨g,0,none⟩:Addr).add j=⟨g,j,none⟩:=fun g j=>by unfold Addr.add;split <;> simp_all
 rcases h.2 with ⟨rfl,h0⟩|⟨g,cap,cur,rfl,hb,hg,hnc,hcm,_⟩
 ·exact .inl ⟨none,0,by first|rfl|rw[h0],List.eq_nil_of_length_eq_zero h0⟩
 ·refine .inr ⟨g,0,cap,rfl,Nat.lt_of_lt_of_le (zH hg) hB,hnc,hcm,zH hg,fun i hi=>?_,fun i hi=>?_,fun i hi=>?_⟩
  ·have c1:=h.cells (g:=g) rfl _ _ (pS l i hi).1
   rw[h1]at c1
   rw[zF hi,Nat.zero_add];exact c1
  ·have c1:=h.cells (g:=g) rfl _ _ (pS l i hi).2.1
   rw[h1]at c1
   rw[zF hi,Nat.zero_add];exact c1
  ·have c1:=h.cells (g:=g) rfl _ _ (pS l i hi).2.2
   rw[h1]at c1
   rw[zF hi,Nat.zero_add];exact c1
theorem chomap_under:Try.prog.underlying 135=some (.map 45 3):=by kernel_rfl
theorem cho_keyed:Keyed Try.prog 45:=Keyed.of_law (deep_law_laid (m:=5) (by kernel_rfl) (by decide) (of_decide_eq_true (by kernel_rfl)) (by kernel_rfl) (by kernel_rfl))
def choW (c:ChoV):Value:=.agg #[.int .i64 c.p,.int .i64 c.y,.int .i64 c.n]
def eJ (c:ChoV):Prop:=(0<=c.p/\c.p < 4611686018427387904)/\(0<=c.y/\c.y < 4611686018427387904)/\(0<=c.n/\c.n < 4611686018427387904)
theorem cT:Try.prog.cellsOf 45=3:=by kernel_rfl
theorem cho_some {x0 x1 x2:Nat} (h0:x0 < 4611686018427387904) (h1:x1 < 4611686018427387904) (h2:x2 < 4611686018427387904):(keyOf Try.prog 45 (.agg #[.int .i64 (x0:Int),.int .i64 (x1:Int),.int .i64 (x2:Int)])).isSome=true:=by
 have hk:Try.prog.keyType 45=true:=by kernel_rfl
 unfold keyOf
 rw[Try.underlying45]
 simp only[hk,Bool.true_and]
 have hf:(Value.agg #[.int .i64 (x0:Int),.int .i64 (x1:Int),.int .i64 (x2:Int)]).formed Try.prog 45=true:=by
  simp[Value.formed,Try.underlying45,cT]
 rw[if_pos hf]
 have hl:Try.prog.keyLits (Try.prog.types.size+1) 45 (Value.agg #[.int .i64 (x0:Int),.int .i64 (x1:Int),.int .i64 (x2:Int)]).cells.toList=some [.int .i64 (x0:Int),.int .i64 (x1:Int),.int .i64 (x2:Int)]:=by
  have hz:Try.prog.types.size=(Try.prog.types.size - 1)+1:=by kernel_rfl
  rw[hz]
  unfold Program.keyLits
  rw[Try.underlying45]
  simp[Value.cells,cT,dU,uL _ h0,uL _ h1,uL _ h2]
 rw[hl];rfl
theorem qBL:KeyK 135 45 eJ choW where
 key:=cho_keyed
 und:=chomap_under
 of:=fun c h=>by
  obtain⟨p,y,n⟩:=c
  obtain⟨⟨a1,a2⟩,⟨b1,b2⟩,⟨c1,c2⟩⟩:=h
  simp only at a1 a2 b1 b2 c1 c2
  have:=cho_some (x0:=p.toNat) (x1:=y.toNat) (x2:=n.toNat) (by omega) (by omega) (by omega)
  rw[Int.toNat_of_nonneg a1,Int.toNat_of_nonneg b1,Int.toNat_of_nonneg c1]at this
  exact this
 inj:=fun x y hx hy e=>by
  obtain⟨p,y',n⟩:=x
  obtain⟨p2,y2,n2⟩:=y
  simp only[choW,Value.agg.injEq]at e
  have e:=congrArg Array.toList e
  simp only[List.cons.injEq,Value.int.injEq,true_and,and_true]at e
  obtain⟨rfl,rfl,rfl⟩:=e
  rfl
def numH (l:List ChoV) (c:ChoV):Option Nat:=if c∈l then some (l.idxOf c) else none
theorem numH_of_mem {l:List ChoV} {c:ChoV} (h:c∈l):numH l c=some (l.idxOf c):=if_pos h
theorem aG {l:List ChoV} {c:ChoV} (h:c ∉ l):numH l c=none:=if_neg h
theorem numH_snoc {l:List ChoV} {c:ChoV} (h:c ∉ l):(fun q=>if q=c then some l.length else numH l q)=numH (l ++ [c]):=by
 funext q
 unfold numH
 by_cases e:q=c
 ·subst e
  rw[if_pos rfl,if_pos (by simp),List.idxOf_append,if_neg h];simp
 ·rw[if_neg e]
  by_cases hq:q∈l
  ·rw[if_pos hq,if_pos (List.mem_append_left _ hq),List.idxOf_append,if_pos hq]
  ·rw[if_neg hq,if_neg (fun h=>by
    rcases List.mem_append.1 h with h|h
    ·exact hq h
    ·simp at h;exact e h)]
theorem BoxS.rewk {B:Nat} {X:Nat->Prop} {o ty:Nat} {w0 wk wk0 w:World} {rs:List RowS} {c:Array Value} (h:BoxS B X o ty w0 wk rs c w) (hk:wL X wk0 wk) (hz:wk0.heap.size<=wk.heap.size) (hB:B<=wk0.heap.size):BoxS B X o ty w0 wk0 rs c w :=
 ⟨h.mem,h.typ,h.box,h.off,h.size,h.old,hB,h.grown,hk.trans h.kept,Nat.le_trans hz h.wk⟩
inductive BldS (w0:World) (B:Nat) (X:Nat->Prop) (o mb:Nat) (wk:World) (cs:List ChoV) (w:World):Prop
 | mk (sa:Option Addr) (cap u c:Nat) (hB:BoxS B X o 137 w0 wk (⟨B,45,.slice sa cs.length cap,cs.length,wJ cs,3⟩ :: []) #[.slice sa cs.length cap,.map (some mb)] w)
  (hM:MapK 45 eJ choW w mb u c (numH cs)) (hmx:¬ X mb) (hmb:w0.heap.size<=mb) (hu:u<=cs.length)
section
variable {w0 w w' wk:World} {B o mb:Nat} {X:Nat->Prop} {cs:List ChoV}
theorem BldS.facts (h:BldS w0 B X o mb wk cs w):w0.grownBy w none/\wL X wk w/\wk.heap.size<=w.heap.size/\B<=w.heap.size/\B<=wk.heap.size/\mb < w.heap.size/\o < w.heap.size:=by
 obtain⟨sa,cap,u,c,hB,hM,h0,h1,hu⟩:=h
 exact⟨hB.grown,hB.kept,hB.wk,Nat.le_trans hB.base hB.wk,hB.base,hM.lt,zH hB.box⟩
theorem BldS.grow (h:BldS w0 B X o mb wk cs w) (hg:w.grownBy w' none):BldS w0 B X o mb wk cs w':=by
 obtain⟨sa,cap,u,c,hB,hM,h0,h1,hu⟩:=h
 exact⟨sa,cap,u,c,hB.grow hg,hM.kept hg (by simp),h0,h1,hu⟩
theorem BldS.rebase (h:BldS w0 B X o mb wk cs w):BldS w0 B X o mb w cs w:=by
 obtain⟨sa,cap,u,c,hB,hM,h0,h1,hu⟩:=h
 exact⟨sa,cap,u,c,hB.rebase,hM,h0,h1,hu⟩
theorem BldS.fresh (h:BldS w0 B X o mb wk cs w) (hg:w.grownBy w' none) {Y:Nat->Prop} (hY:∀ k,Y k->w.heap.size<=k/\k < w'.heap.size):BldS w0 B (fun k=>X k\/Y k) o mb w' cs w':=by
 obtain⟨sa,cap,u,c,hB,hM,h0,h1,hu⟩:=h
 exact⟨sa,cap,u,c,hB.fresh hg hY,hM.kept hg (by simp),fun e=>by
  rcases e with e|e
  ·exact h0 e
  ·have:=(hY mb e).1
   have:=hM.lt
   omega,h1,hu⟩
theorem BldS.back {X':Nat->Prop} {wk0:World} (h:BldS w0 B X' o mb wk cs w) (hX:∀ q,X q->X' q) (hk:wL X wk0 wk) (hz:wk0.heap.size<=wk.heap.size) (hB:B<=wk0.heap.size):BldS w0 B X o mb wk0 cs w:=by
 obtain⟨sa,cap,u,c,h2,hM,h0,h1,hu⟩:=h
 exact⟨sa,cap,u,c,(h2.less hX).rewk hk hz hB,hM,fun e=>h0 (hX _ e),h1,hu⟩
theorem BldS.cells (h:BldS w0 B X o mb wk cs w):∃ sa cap u c,w.heap[o]?=some (.cells #[.slice sa cs.length cap,.map (some mb)] 137 (0,0))/\w.ownsRow B 45 3 (.slice sa cs.length cap) cs.length (wJ cs)/\MapK 45 eJ choW w mb u c (numH cs)/\u<=cs.length:=by
 obtain⟨sa,cap,u,c,hB,hM,h0,h1,hu⟩:=h
 exact⟨sa,cap,u,c,hB.box,hB.own (r:=⟨B,45,.slice sa cs.length cap,cs.length,wJ cs,3⟩) (by simp),hM,hu⟩
theorem BldS.put (h : BldS w0 B X o mb wk cs w) {x : ChoV} (hx : x ∉ cs) {sa : Option Addr} {cap u1 c1 : Nat} (hbx : w.heap[o]? = some (.cells #[.slice sa cs.length cap, .map (some mb)] 137 (0, 0))) (hg : w.grownBy w' (some mb)) (hM1 : MapK 45 eJ choW w' mb u1 c1 (numH (cs ++ [x]))) (hu1 : u1 ≤ cs.length + 1) :
  w'.cell? ⟨o, 0, none⟩ = some (.slice sa cs.length cap) ∧ w'.ownsRow B 45 3 (.slice sa cs.length cap) cs.length (wJ cs) ∧ B ≤ w'.heap.size ∧
  (∀ wg, w'.grownBy wg none → ∀ w2 s' c', w2.ownsRow B 45 3 (.slice s' (cs.length + 1) c') (cs.length + 1) (wJ cs ++ qCF x) → wg.grownBy w2 (Value.slice sa cs.length cap).ownBlock → mA wg w2 (.slice sa cs.length cap) (.slice s' (cs.length + 1) c') →
   w2.cell? ⟨o, 0, none⟩ = some (.slice sa cs.length cap) ∧ w2.frozen? ⟨o, 0, none⟩ = false ∧ BldS w0 B X o mb wk (cs ++ [x]) (w2.setCell ⟨o, 0, none⟩ (.slice s' (cs.length + 1) c'))) := by
 obtain ⟨sa2, cap2, u2, c2, hB, hM, hmx, hmb, hu⟩ := h
 have hbx2 := hB.box
 rw [hbx] at hbx2
 simp only [Option.some.injEq, Obj.cells.injEq, and_true] at hbx2
 have hbx2 := congrArg Array.toList hbx2
 simp only [List.cons.injEq, and_true, Value.slice.injEq, true_and] at hbx2
 obtain ⟨rfl, rfl⟩ := hbx2
 have homb : o ≠ mb := fun e => by
  obtain ⟨es, clock, hb⟩ := hM.obj
  rw [e, hb] at hbx; simp at hbx
 have hfar := hB.far hg (fun r hr => xU (es := #[]) (clock := 0) (hB.mem.own r hr) hM.obj) hmx homb hmb
 have ho := hfar.own (r := ⟨B, 45, .slice sa cs.length cap, cs.length, wJ cs, 3⟩) (by simp)
 have hb0 := zK hfar.box 0 (by simp)
 simp only [List.getElem_toArray, List.getElem_cons_zero] at hb0
 refine ⟨hb0, ho, Nat.le_trans hfar.base hfar.wk, fun wg hwg w2 s' c' hown hg2 hmv => ?_⟩
 have hfg := hfar.grow hwg
 have hMg := hM1.kept hwg (by simp)
 have hSm : (Value.slice sa cs.length cap).ownBlock ≠ some mb := xU (es := #[]) (clock := 0) (zQ ho hwg) hMg.obj
 have hA := hfg.appAt (j := 0) rfl hown hg2 hmv
 have hb2 := zK hA.box 0 (by simp)
 simp only [List.getElem_toArray, List.getElem_cons_zero] at hb2
 have hZ := hA.set 0 (.slice s' (cs.length + 1) c')
 have hM2 := (hMg.kept hg2 hSm).kept (zC w2 ⟨o, 0, none⟩ (.slice s' (cs.length + 1) c')) (fun e => homb (Oj e))
 have e1 : (cs ++ [x]).length = cs.length + 1 := by rw [List.length_append]; rfl
 refine ⟨hb2, zE hA.box 0, ⟨s', c', u1, c1, ?_, hM2, hmx, hmb, by omega⟩⟩
 rw [e1, jP]
 exact hZ
end
end Go.Proofs.Ytjfdomfendbhfaa
namespace Go.Proofs.Ytjfdomfendbhfaa
def dX (n:Nat):Code->Option Code
 | .block i c=>if i=n then some c else dX n c
 | .seq a b=>match dX n a with
  | some c=>some c
  | none=>dX n b
 | .cond _ a b=>match dX n a with
  | some c=>some c
  | none=>dX n b
 | .loop c=>dX n c
 | .scope c=>dX n c
 | _=>none
noncomputable def blk (f:Func) (n:Nat):Code:=(f.body.bind (dX n)).getD .skip
def dW (n:Nat):Code->Option Code
 | .region i o d=>if i=n then some (.region i o d) else none
 | .block _ c=>dW n c
 | .seq a b=>match dW n a with
  | some c=>some c
  | none=>dW n b
 | .cond _ a b=>match dW n a with
  | some c=>some c
  | none=>dW n b
 | .loop c=>dW n c
 | .scope c=>dW n c
 | _=>none
noncomputable def reg (f:Func) (n:Nat):Code:=(f.body.bind (dW n)).getD .skip
end Go.Proofs.Ytjfdomfendbhfaa
namespace Go.Proofs.Ytjfdomfendbhfaa
open Go.RowKit Go.Maps
set_option maxRecDepth 100000 in
set_option maxHeartbeats 1600000 in
theorem dg_reg6 {Q':Exit->Act->World->Prop} {v2 v3 v4 v6 v7 v8 v9 v10 v11 v12 v13 v14 v15 v16 v17 v18 v19 v20 v21 v22 v23 v24 v25 v26 v27 v28 v29 v30 v31 v32 v33 v34 v35 v36 v37 v38 v39 v40 v41 v42 v43 v44 v45 v46 v47 v48 v49 v50 v51 v52 v53 v54 v55 v56 v57 v58 v59 v60 v61 v62 v63 v64 v65 v66 v67 v68 v69 v70 v71 v72:Value} {dd:_} {w:World} {P tb B base m:Nat} {sc:Option Addr} {cc:Nat} {svs:List Value} {letters:Int} {cv rv:Value}
  (hb:w.heap[P]?=some (.cells #[.slice sc m cc,cv,rv] 25 (0,0))) (ho:w.ownsRow base 28 1 (.slice sc m cc) m svs) (hT:xB B w tb) (hlt:tb < base/\P < base) (hne:P≠tb) (hbase:base<=w.heap.size) (hm:m<=1000) (hBP:B<=P) (hl1:1<=letters) (hl6:letters<=6)
  (hexit:∀ (z19 z20 z21 z22 z23 z24 z25 z26:Value) (sc':Option Addr) (cc':Nat) (u:Value) (bs:List (List Int)) (w0 w1 w':World),w.grownBy w0 (some tb)->w0.ownsRow base 28 1 (.slice sc m cc) m svs->w0.grownBy w1 (Value.slice sc m cc).ownBlock->w1.grownBy w' (some P)->RowT w0.heap.size 9 w0 u (strs bs)->wQ letters bs->w'.heap[P]?=some (.cells #[.slice sc' (m+1) cc',cv,rv] 25 (0,0))->w'.ownsRow base 28 1 (.slice sc' (m+1) cc') (m+1) (svs ++ [u])->xB B w' tb->Q' .normal ⟨((Value.pointer (some ⟨tb,0,none⟩)) :: (Value.int .i64 letters) :: v2 :: v3 :: v4 :: (Value.pointer (some ⟨P,0,none⟩)) :: v6 :: v7 :: v8 :: v9 :: v10 :: v11 :: v12 :: v13 :: v14 :: v15 :: v16 :: v17 :: v18 :: z19 :: z20 :: z21 :: z22 :: z23 :: z24 :: z25 :: z26 :: v27 :: v28 :: v29 :: v30 :: v31 :: v32 :: v33 :: v34 :: v35 :: v36 :: v37 :: v38 :: v39 :: v40 :: v41 :: v42 :: v43 :: v44 :: v45 :: v46 :: v47 :: v48 :: v49 :: v50 :: v51 :: v52 :: v53 :: v54 :: v55 :: v56 :: v57 :: v58 :: v59 :: v60 :: v61 :: v62 :: v63 :: v64 :: v65 :: v66 :: v67 :: v68 :: v69 :: v70 :: v71 :: v72 :: []).toArray,dd⟩ w') :
  Code.wp Try.prog (reg Try.f26 6) Q' ⟨((Value.pointer (some ⟨tb,0,none⟩)) :: (Value.int .i64 letters) :: v2 :: v3 :: v4 :: (Value.pointer (some ⟨P,0,none⟩)) :: v6 :: v7 :: v8 :: v9 :: v10 :: v11 :: v12 :: v13 :: v14 :: v15 :: v16 :: v17 :: v18 :: v19 :: v20 :: v21 :: v22 :: v23 :: v24 :: v25 :: v26 :: v27 :: v28 :: v29 :: v30 :: v31 :: v32 :: v33 :: v34 :: v35 :: v36 :: v37 :: v38 :: v39 :: v40 :: v41 :: v42 :: v43 :: v44 :: v45 :: v46 :: v47 :: v48 :: v49 :: v50 :: v51 :: v52 :: v53 :: v54 :: v55 :: v56 :: v57 :: v58 :: v59 :: v60 :: v61 :: v62 :: v63 :: v64 :: v65 :: v66 :: v67 :: v68 :: v69 :: v70 :: v71 :: v72 :: []).toArray,dd⟩ w:=by
 conv=>arg 2;whnf
 obtain⟨w7,H3⟩:∃ w7,w7=w.drew:=⟨_,rfl⟩
 have h6:w.grownBy w7 none:=by rw[H3];exact zL w none
 have a4:=Kh H3
 have HB:=Kh (zA hb h6 (by simp));have HO:=Kh (zQ ho h6);have h4:Hid (w.grownBy w7 (some tb)):=Kh (yY h6);have HT:=Kh (hT.kept h6 (by simp))
 have a0:=Kh hne;have H1:=Kh hlt;have HE:=Kh hexit;have a9:=Kh hbase;have b0:=Kh hBP
 have C:Hid (w7.cell? ⟨P,0,none⟩=some (.slice sc m cc)):=Kh ((zJ HB.out).1)
 clear H3 h6 hb ho hT hexit hbase hne hlt
 refine wp_region_noPanic ?_
 refine wN (G:=uZ 8 (fun _=>True) (fun W=>W.cell? ⟨P,0,none⟩=some (.slice sc m cc))) (by kernel_rfl) ?_
 rw[<- a4.out]
 refine uB (i:=0) (v:=?_) rfl rfl (by kernel_rfl) (by kernel_rfl) (by kernel_rfl) (by kernel_rfl) (by kernel_rfl) (fun _ _ _ h=>h) (Or.inl ⟨by rfl,?_⟩) ⟨trivial,fun _=>C.out⟩ ?_
 rotate_left
 ·(rintro wz ⟨-,hz⟩;(try dsimp only at hz);go_simp;(try with_reducible rfl))
 try simp only[Act.put,sPd,sPe,sPf,sPa,sPb,sPc]
 refine uB (i:=1) (v:=?_) rfl rfl (by kernel_rfl) (by kernel_rfl) (by kernel_rfl) (by kernel_rfl) (by kernel_rfl) (fun _ _ _ h=>h) (Or.inl ⟨by rfl,?_⟩) ⟨trivial,fun _=>C.out⟩ ?_
 rotate_left
 ·(rintro wz ⟨-,hz⟩;(try dsimp only at hz);go_simp;(try with_reducible rfl))
 try simp only[Act.put,sPd,sPe,sPf,sPa,sPb,sPc]
 refine uB (i:=2) (v:=?_) rfl rfl (by kernel_rfl) (by kernel_rfl) (by kernel_rfl) (by kernel_rfl) (by kernel_rfl) (fun _ _ _ h=>h) (Or.inl ⟨by rfl,?_⟩) ⟨trivial,fun _=>C.out⟩ ?_
 rotate_left
 ·(rintro wz ⟨-,hz⟩;(try dsimp only at hz);go_simp;(try with_reducible rfl))
 try simp only[Act.put,sPd,sPe,sPf,sPa,sPb,sPc]
 refine uB (i:=3) (v:=?_) rfl rfl (by kernel_rfl) (by kernel_rfl) (by kernel_rfl) (by kernel_rfl) (by kernel_rfl) (fun _ _ _ h=>h) (Or.inl ⟨by rfl,?_⟩) ⟨trivial,fun _=>C.out⟩ ?_
 rotate_left
 ·(rintro wz ⟨-,hz⟩;(try dsimp only at hz);go_simp;(try with_reducible rfl))
 try simp only[Act.put,sPd,sPe,sPf,sPa,sPb,sPc]
 refine oneG (i:=4) (by kernel_rfl) rfl (fun K hK=>?_)
 go_simp
 go_at_call 67
 refine(pattern_anyT B tb w7 letters hl1 hl6 HT.out).mono ?_
 rintro e w8 ⟨u,bs,rfl,h2,h0,H8,H0⟩
 have h3:=Kh h2;have h8:=Kh h0
 have HT:=Kh H8
 have HB:=Kh (zA HB.out H0 (fun e=>a0.out (Oj e).symm));have HO:=Kh (HO.out.kept H0 (by rcases hv:(Value.slice sc m cc).ownBlock with _|j;exact .inl rfl;exact .inr (fun e=>by have e:j=tb:=Oj e;have:=(HO.out.lt j hv).1;have:=H1.out.1;omega)));have h4:=Kh (zD h4.out H0)
 have C:Hid (w8.cell? ⟨P,0,none⟩=some (.slice sc m cc)):=Kh ((zJ HB.out).1)
 obtain⟨ua,uc,hu⟩:=h2.shape
 obtain⟨ul,H4⟩:∃ n,n=(strs bs).length:=⟨_,rfl⟩
 rw[<- H4]at hu
 subst hu
 refine hK.out _ _ ⟨trivial,fun _=>C.out⟩ ?_
 clear hK K H8 H0 h2 h0 H4
 try simp only[Act.put,sPd,sPe,sPf,sPa,sPb,sPc]
 have h1:=Ga w8 (.cells #[.slice ua ul uc] 28) none
 have h7:=heap_alloc_new w8 (.cells #[.slice ua ul uc] 28)
 obtain⟨X,hX⟩:∃ X,X=w8.heap.size:=⟨_,rfl⟩
 obtain⟨wl,H2⟩:∃ wl,wl=w8.alloc (.cells #[.slice ua ul uc] 28):=⟨_,rfl⟩
 rw[<- H2]at h1 h7
 rw[<- hX]at h7
 have a3:=Kh H2;have a2:=Kh hX
 have h3:=Kh ((h3.out.kept h1 (by simp)).mono h1.size)
 have HB:=Kh (zA HB.out h1 (by simp));have HO:=Kh (zQ HO.out h1);have h4:=Kh (zD h4.out (yY h1));have HT:=Kh (HT.out.kept h1 (by simp))
 have b1:=Kh h7
 have C:Hid (wl.cell? ⟨P,0,none⟩=some (.slice sc m cc)):=Kh ((zJ HB.out).1)
 clear h1 h7 hX H2
 refine oneG (i:=5) (by kernel_rfl) rfl (fun K hK=>?_)
 go_simp
 rw[<- a3.out,<- a2.out]
 refine hK.out _ _ ⟨trivial,fun _=>C.out⟩ ?_
 clear hK K
 try simp only[Act.put,sPd,sPe,sPf,sPa,sPb,sPc]
 have hz:=Nat.le_trans a9.out h4.out.size
 refine oneG (i:=6) (by kernel_rfl) rfl (fun K hK=>?_)
 refine qJ rfl (.tmp 20) (.tmp 24) 22 rfl uN.toN base (.slice sc m cc) m _ rfl HO.out [.slice ua ul uc] X rfl (0,0) rfl b1.out ?z1 ?z2 ?z3 hz ?_
 case z1=>intro v hv;simp only[List.mem_cons,List.not_mem_nil,or_false]at hv;subst hv;rfl
 case z2=>unfold maxLen;omega
 case z3=>omega
 intro sc' cc' wp h5 h9 a1
 have a8:=Kh h9
 have H9:=Kh h5
 have HB:=Kh (zA HB.out h9 (fun e=>by have:=(HO.out.lt P e).1;have:=H1.out;omega));have HT:=Kh (HT.out.kept h9 (fun k e=>by have:=(HO.out.lt k e).1;have:=H1.out;have:=HT.out.ge;omega))
 have C:Hid (wp.cell? ⟨P,0,none⟩=some (.slice sc m cc)):=Kh ((zJ HB.out).1)
 refine hK.out _ _ ⟨trivial,fun _=>C.out⟩ ?_
 clear hK K h5 h9 a1
 try simp only[Act.put,sPd,sPe,sPf,sPa,sPb,sPc]
 refine uB (i:=7) (v:=?_) rfl rfl (by kernel_rfl) (by kernel_rfl) (by kernel_rfl) (by kernel_rfl) (by kernel_rfl) (fun _ _ _ h=>h) (Or.inl ⟨by rfl,?_⟩) ⟨trivial,fun _=>C.out⟩ ?_
 rotate_left
 ·(rintro wz ⟨-,hz⟩;(try dsimp only at hz);go_simp;(try with_reducible rfl))
 try simp only[Act.put,sPd,sPe,sPf,sPa,sPb,sPc]
 have c1:=C.out
 have f1:=zE HB.out 0
 have h7:=zH HB.out
 have H6:=heap_setCell_same wp P 0 _ _ (.slice sc' (m+1) cc') HB.out
 have H7:=H9.out.kept (zC wp ⟨P,0,none⟩ (.slice sc' (m+1) cc')) (.inr (fun e=>by have:=(H9.out.lt P e).1;have:=H1.out;omega))
 have H5:=HT.out.kept (zC wp ⟨P,0,none⟩ (.slice sc' (m+1) cc')) (fun k e=>by have e:P=k:=Oj e;have:=a0.out;have:=b0.out;omega)
 have a6:=Kh H6;have a7:=Kh H7;have a5:=Kh H5
 clear H6 H7 H5
 refine oneG (i:=8) (by kernel_rfl) rfl (fun K hK=>?_)
 go_simp
 refine hK.out _ _ ⟨trivial,fun h=>by cases h⟩ ?_
 clear hK K
 try simp only[Act.put,sPd,sPe,sPf,sPa,sPb,sPc]
 refine jI (by kernel_rfl) ?_ _
 exact HE.out _ _ _ _ _ _ _ _ sc' cc' (.slice ua ul uc) bs wl wp _ h4.out HO.out a8.out (zC wp ⟨P,0,none⟩ (.slice sc' (m+1) cc')) h3.out h8.out a6.out a7.out a5.out
end Go.Proofs.Ytjfdomfendbhfaa
