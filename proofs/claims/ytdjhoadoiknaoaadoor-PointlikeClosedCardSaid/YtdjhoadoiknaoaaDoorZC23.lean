/- Part 23 of the proof: EMem, EnumPlain, EWord, Made. -/
import Derived.Test.YtdjhoadoiknaoaaDoorZC22
set_option linter.unusedVariables false
set_option linter.unusedSimpArgs false
namespace Go.Proofs.YtdjhoadoiknaoaaDoor
open Go.RowKit
def RowX (X:Nat→Prop) (e:TypeId) (w:World) (v:Value) (xs:List Value):Prop:=RowT w.heap.size e w v xs∧∀ k,v.ownBlock=some k→X k
def KeepX (X:Nat→Prop) (w w':World):Prop:=∀ k,X k→w'.heap[k]?=w.heap[k]?
theorem KeepX.trans {X:Nat→Prop} {a b c:World} (h:KeepX X a b) (h':KeepX X b c):KeepX X a c:=fun k hk=>(h' k hk).trans (h k hk)
theorem KeepX.refl (X:Nat→Prop) (w:World):KeepX X w w:=fun _ _=>rfl
theorem KeepX.cell {X:Nat→Prop} {w w':World} (h:KeepX X w w') {b i:Nat} (hb:X b) {u:Value} (hc:w.cell? ⟨b,i,none⟩=some u):w'.cell? ⟨b,i,none⟩=some u:=(World.cell?_of_block (h b hb)).trans hc
theorem RowX.kept {X:Nat→Prop} {e:TypeId} {w w':World} {v:Value} {xs:List Value} (h:RowX X e w v xs) (hk:KeepX X w w') (hs:w.heap.size≤w'.heap.size):RowX X e w' v xs:=by
 refine ⟨?_,h.2⟩
 rcases h.1 with h1|⟨b,off,cap,cur,m,h1,h2,h3,h4,h5,h6⟩
 ·exact .inl h1
 ·exact .inr ⟨b,off,cap,cur,m,h1,by omega,h3,h4,(hk b (h.2 b (by rw [h1];rfl))).trans h5,h6⟩
theorem RowX.mono {X X':Nat→Prop} {e:TypeId} {w:World} {v:Value} {xs:List Value} (h:RowX X e w v xs) (hX:∀ k,X k→X' k):RowX X' e w v xs:=⟨h.1,fun k hk=>hX k (h.2 k hk)⟩
theorem RowX.row {X:Nat→Prop} {e:TypeId} {w:World} {v:Value} {xs:List Value} (h:RowX X e w v xs):Row w.heap.size w v xs:=h.1.row
theorem RowX.of_owns {X:Nat→Prop} {w:World} {base e n:Nat} {v:Value} {xs:List Value} (h:w.ownsRow base e 1 v n xs) (hX:∀ k,v.ownBlock=some k→X k):RowX X e w v xs:=⟨RowT.of_owns h,hX⟩
def RowsX {α:Type} (X:Nat→Prop) (e:TypeId) (f:α→List Value) (w:World) (hs:List Value) (ts:List α):Prop :=
 hs.length=ts.length∧∀ i (h:i < hs.length) (h':i < ts.length),RowX X e w hs[i] (f ts[i])
section
variable {α:Type} {X X':Nat→Prop} {e:TypeId} {f:α→List Value} {w w':World} {hs:List Value} {ts:List α}
theorem RowsX.nil:RowsX X e f w [] []:=⟨rfl,fun i h=>by simp at h⟩
theorem RowsX.kept (h:RowsX X e f w hs ts) (hk:KeepX X w w') (hs':w.heap.size≤w'.heap.size):RowsX X e f w' hs ts:=⟨h.1,fun i h1 h2=>(h.2 i h1 h2).kept hk hs'⟩
theorem RowsX.mono (h:RowsX X e f w hs ts) (hX:∀ k,X k→X' k):RowsX X' e f w hs ts:=⟨h.1,fun i h1 h2=>(h.2 i h1 h2).mono hX⟩
theorem RowsX.snoc {v:Value} {t:α} (h:RowsX X e f w hs ts) (hv:RowX X e w v (f t)):RowsX X e f w (hs ++ [v]) (ts ++ [t]):=by
 refine ⟨by simp [h.1],fun i h1 h2=>?_⟩
 by_cases hi:i < hs.length
 ·rw [List.getElem_append_left hi]
  simp only [List.getElem_append_left (show i < ts.length by rw [← h.1];exact hi)]
  exact h.2 i hi _
 ·have:i=hs.length:=by simp at h1;omega
  subst this
  rw [List.getElem_append_right (Nat.le_refl _)]
  simp only [List.getElem_append_right (show ts.length≤hs.length by rw [h.1];exact Nat.le_refl _)]
  simpa [h.1] using hv
end
structure EMem (X:Nat→Prop) (W:World) (rs:List RowS):Prop where
 own:∀ r∈rs,W.ownsRow r.base r.e r.sz r.v r.n r.xs
 apart:rs.Pairwise (fun r s=>∀ k,r.v.ownBlock=some k→s.v.ownBlock≠some k)
 offX:∀ r∈rs,∀ k,r.v.ownBlock=some k→¬ X k
 lt:∀ k,X k→k < W.heap.size
def sS (rs:List RowS) (k:Nat):Prop:=∃ r∈rs,r.v.ownBlock=some k
section
variable {X:Nat→Prop} {W W':World} {rs rs':List RowS}
theorem EMem.many (h:EMem X W rs) (F:Nat→Prop) (hF:∀ k,sS rs k→F k):Many W F W rs [] []:=Many.start h.own (fun r hr k hk=>hF k ⟨r,hr,hk⟩) h.apart
theorem EMem.grow (h:EMem X W rs) (hg:W.grownBy W' none):EMem X W' rs:=⟨fun r hr=>yZ (h.own r hr) hg,h.apart,h.offX,fun k hk=>Nat.lt_of_lt_of_le (h.lt k hk) hg.size⟩
theorem KeepX.of_grown {row:Option Nat} (hlt:∀ k,X k→k < W.heap.size) (hg:W.grownBy W' row) (hr:∀ k,row=some k→¬ X k):KeepX X W W':=fun k hk=>hg.block k (hlt k hk) (fun e=>hr k e.symm hk)
theorem EMem.keep (h:EMem X W rs) (hg:W.grownBy W' none):KeepX X W W':=KeepX.of_grown h.lt hg (by simp)
theorem EMem.after {F:Nat→Prop} {ls:List (Nat × Obj)} (h:EMem X W rs) (hM:Many W F W' rs' ls []) (hF:∀ k,F k→¬ X k):EMem X W' rs' where
 own:=fun r hr=>by
  obtain ⟨i,hi,e⟩:=List.getElem_of_mem hr
  exact hM.own i r (by rw [List.getElem?_eq_getElem hi,e])
 apart:=by
  rw [List.pairwise_iff_getElem]
  intro i j hi hj hij
  exact hM.apart i j _ _ (by omega) (List.getElem?_eq_getElem hi) (List.getElem?_eq_getElem hj)
 offX:=fun r hr k hk hx=>by
  obtain ⟨i,hi,e⟩:=List.getElem_of_mem hr
  rcases hM.mine i r (by rw [List.getElem?_eq_getElem hi,e]) k hk with hf|hf
  ·exact hF k hf hx
  ·have:=h.lt k hx;omega
 lt:=fun k hk=>Nat.lt_of_lt_of_le (h.lt k hk) hM.but.size
theorem EMem.keepMany {F:Nat→Prop} {ls:List (Nat × Obj)} (h:EMem X W rs) (hM:Many W F W' rs' ls []) (hF:∀ k,F k→¬ X k):KeepX X W W':=fun k hk=>hM.but.block k (h.lt k hk) (fun hf=>hF k hf hk)
theorem EMem.far (h:EMem X W rs) {o:Nat} (hg:W.grownBy W' (some o)) (hr:∀ r∈rs,r.v.ownBlock≠some o):EMem X W' rs where
 own:=fun r hr'=>(h.own r hr').kept hg (.inr (hr r hr'))
 apart:=h.apart
 offX:=h.offX
 lt:=fun k hk=>Nat.lt_of_lt_of_le (h.lt k hk) hg.size
theorem EMem.retire {r:RowS} (h:EMem X W (rs ++ [r])):EMem (fun k=>X k∨r.v.ownBlock=some k) W rs where
 own:=fun s hs=>h.own s (List.mem_append_left _ hs)
 apart:=(List.pairwise_append.1 h.apart).1
 offX:=fun s hs k hk hx=>by
  rcases hx with hx|hx
  ·exact h.offX s (List.mem_append_left _ hs) k hk hx
  ·exact (List.pairwise_append.1 h.apart).2.2 s hs r (by simp) k hk hx
 lt:=fun k hx=>by
  rcases hx with hx|hx
  ·exact h.lt k hx
  ·exact ((h.own r (by simp)).lt k hx).2
theorem EMem.fresh (h:EMem X W rs) (hg:W.grownBy W' none) {Y:Nat→Prop} (hY:∀ k,Y k→W.heap.size≤k∧k < W'.heap.size):EMem (fun k=>X k∨Y k) W' rs where
 own:=fun r hr=>yZ (h.own r hr) hg
 apart:=h.apart
 offX:=fun r hr k hk hx=>by
  rcases hx with hx|hx
  ·exact h.offX r hr k hk hx
  ·have:=((h.own r hr).lt k hk).2
   have:=(hY k hx).1
   omega
 lt:=fun k hx=>by
  rcases hx with hx|hx
  ·exact Nat.lt_of_lt_of_le (h.lt k hx) hg.size
  ·exact (hY k hx).2
theorem EMem.add (h:EMem X W rs) (hg:W.grownBy W' none) {r:RowS} (ho:W'.ownsRow r.base r.e r.sz r.v r.n r.xs) (hn:∀ k,r.v.ownBlock=some k→W.heap.size≤k):EMem X W' (rs ++ [r]) where
 own:=fun s hs=>by
  rcases List.mem_append.1 hs with hs|hs
  ·exact yZ (h.own s hs) hg
  ·rw [List.mem_singleton] at hs;subst hs;exact ho
 apart:=by
  rw [List.pairwise_append]
  refine ⟨h.apart,by simp,fun s hs t ht k hk e=>?_⟩
  rw [List.mem_singleton] at ht
  subst ht
  have:=((h.own s hs).lt k hk).2
  have:=hn k e
  omega
 offX:=fun s hs k hk hx=>by
  rcases List.mem_append.1 hs with hs|hs
  ·exact h.offX s hs k hk hx
  ·rw [List.mem_singleton] at hs;subst hs
   have:=h.lt k hx
   have:=hn k hk
   omega
 lt:=fun k hk=>Nat.lt_of_lt_of_le (h.lt k hk) hg.size
theorem EMem.nil (w:World):EMem (fun _=>False) w []:=⟨fun r hr=>by simp at hr,List.Pairwise.nil,fun r hr=>by simp at hr,fun k hk=>hk.elim⟩
end
def TX (X:Nat→Prop) (w:World) (v:Value) (ts:List (List Nat)):Prop:=∃ hs,RowX X 22 w v hs∧RowsX X 3 nats w hs ts
theorem TX.kept {X:Nat→Prop} {w w':World} {v:Value} {ts:List (List Nat)} (h:TX X w v ts) (hk:KeepX X w w') (hs:w.heap.size≤w'.heap.size):TX X w' v ts:=by
 obtain ⟨l,h1,h2⟩:=h
 exact ⟨l,h1.kept hk hs,h2.kept hk hs⟩
theorem TX.mono {X X':Nat→Prop} {w:World} {v:Value} {ts:List (List Nat)} (h:TX X w v ts) (hX:∀ k,X k→X' k):TX X' w v ts:=by
 obtain ⟨l,h1,h2⟩:=h
 exact ⟨l,h1.mono hX,h2.mono hX⟩
theorem TX.tmat {X:Nat→Prop} {w:World} {v:Value} {ts:List (List Nat)} (h:TX X w v ts):TMat w.heap.size w v ts:=by
 obtain ⟨l,h1,h2⟩:=h
 exact ⟨l,h1.1.row,h2.1,fun i h3 h4=>(h2.2 i h3 h4).1⟩
theorem RowsX.rowsT {α:Type} {X:Nat→Prop} {e:TypeId} {f:α→List Value} {w:World} {hs:List Value} {ts:List α} (h:RowsX X e f w hs ts):RowsT w.heap.size e f w hs ts:=⟨h.1,fun i h3 h4=>(h.2 i h3 h4).1⟩
theorem jY {base n:Nat} {X:Nat→Prop} {w:World} {v:Value} {hs:List Value} {ts:List (List Nat)} (ho:w.ownsRow base 22 1 v n hs) (h:RowsX X 3 nats w hs ts):TMat w.heap.size w v ts:=⟨hs,Row.of_owns ho,h.rowsT⟩
end Go.Proofs.YtdjhoadoiknaoaaDoor
namespace Go.Proofs.YtdjhoadoiknaoaaDoor
def wordE (pre las:List Int):Nat→Nat→List Nat
 | 0,_=>[]
 | f+1,i=>if las.getD i 0 < 0 then [] else wordE pre las f (pre.getD i 0).toNat ++ [(las.getD i 0).toNat]
def wordI (pre las:List Int) (i:Nat):List Nat:=wordE pre las (i+1) i
def sD (pre las:List Int) (n k:Nat):Prop:=∀ i,i < n→las.getD i 0 < 0∨(0≤las.getD i 0∧las.getD i 0 < k∧0≤pre.getD i 0∧pre.getD i 0 < i)
theorem wordE_two {pre las:List Int} {n k:Nat} (h:sD pre las n k):∀ (i f g:Nat),i < n→i < f→i < g→wordE pre las f i=wordE pre las g i:=by
 intro i
 induction i using Nat.strongRecOn with
 | ind i ih =>
  intro f g hi hf hg
  match f,g,hf,hg with
  | f+1,g+1,hf,hg =>
   rw [wordE,wordE]
   split
   ·rfl
   ·rename_i hl
    rcases h i hi with h1|⟨h1,h2,h3,h4⟩
    ·exact absurd h1 hl
    ·rw [ih (pre.getD i 0).toNat (by omega) f g (by omega) (by omega) (by omega)]
theorem wordE_fuel {pre las:List Int} {n k:Nat} (h:sD pre las n k) (f i:Nat) (hi:i < n) (hf:i < f):wordE pre las f i=wordI pre las i:=wordE_two h i f (i+1) hi hf (by omega)
theorem mN {pre las:List Int} {i:Nat} (h:las.getD i 0 < 0):wordI pre las i=[]:=by rw [wordI,wordE,if_pos h]
theorem mO {pre las:List Int} {n k i:Nat} (h:sD pre las n k) (hi:i < n) (hl:¬ las.getD i 0 < 0):wordI pre las i=wordI pre las (pre.getD i 0).toNat ++ [(las.getD i 0).toNat]:=by
 rw [wordI,wordE,if_neg hl]
 rcases h i hi with h1|⟨h1,h2,h3,h4⟩
 ·exact absurd h1 hl
 ·rw [wordE_fuel h i _ (by omega) (by omega)]
theorem mC {pre las:List Int} {n k:Nat} (h:sD pre las n k):∀ i,i < n→(∀ a∈wordI pre las i,a < k)∧(wordI pre las i).length≤i:=by
 intro i
 induction i using Nat.strongRecOn with
 | ind i ih =>
  intro hi
  by_cases hl:las.getD i 0 < 0
  ·rw [mN hl];exact ⟨fun a ha=>by simp at ha,by simp⟩
  ·rcases h i hi with h1|⟨h1,h2,h3,h4⟩
   ·exact absurd h1 hl
   ·rw [mO h hi hl]
    have:=ih (pre.getD i 0).toNat (by omega) (by omega)
    refine ⟨fun a ha=>?_,by rw [List.length_append,List.length_singleton];omega⟩
    rcases List.mem_append.1 ha with ha|ha
    ·exact this.1 a ha
    ·rw [List.mem_singleton] at ha;omega
def lets (w:List Nat):List Int:=w.map fun (a:Nat)=>97+(a:Int)
end Go.Proofs.YtdjhoadoiknaoaaDoor
namespace Go.Proofs.YtdjhoadoiknaoaaDoor
open Go.RowKit
theorem kZ (a b:List Int):strOfNums a ++ strOfNums b=strOfNums (a ++ b):=by
 apply ByteArray.ext
 simp [strOfNums]
theorem zZ {w w':World} {p:Addr} {u:Value} (h:w.cell? p=some u) (hg:w.grownBy w' none):w'.cell? p=some u:=(World.cell?_of_block (hg.block p.block (World.block_lt_of_cell? w p h) (by simp))).trans h
theorem zW {w:World} {p e:Nat} {x0 x1 x2 x3 x4 x5 x6 x7 x8:Value} (h:w.heap[p]?=some (.cells #[x0,x1,x2,x3,x4,x5,x6,x7,x8] e (0,0))) :
  w.cell? ⟨p,0,none⟩=some x0∧w.cell? ⟨p,1,none⟩=some x1∧w.cell? ⟨p,2,none⟩=some x2∧w.cell? ⟨p,3,none⟩=some x3∧w.cell? ⟨p,4,none⟩=some x4∧w.cell? ⟨p,5,none⟩=some x5∧w.cell? ⟨p,6,none⟩=some x6∧w.cell? ⟨p,7,none⟩=some x7∧w.cell? ⟨p,8,none⟩=some x8:=by
 have c0:=zI h 0 (by simp)
 have c1:=zI h 1 (by simp)
 have c2:=zI h 2 (by simp)
 have c3:=zI h 3 (by simp)
 have c4:=zI h 4 (by simp)
 have c5:=zI h 5 (by simp)
 have c6:=zI h 6 (by simp)
 have c7:=zI h 7 (by simp)
 have c8:=zI h 8 (by simp)
 simp only [List.getElem_toArray,List.getElem_cons_zero,List.getElem_cons_succ] at c0 c1 c2 c3 c4 c5 c6 c7 c8
 exact ⟨c0,c1,c2,c3,c4,c5,c6,c7,c8⟩
set_option maxRecDepth 100000 in
set_option maxHeartbeats 800000 in
theorem oT (B C:Nat) (w:World) (x0 x1 x2 x3 x4 x5 x6 x7 x8:Value) (pre las:List Int) (n k i0:Nat) (hB:B≤w.heap.size) (hC:C≤w.heap.size) (h4:Row B w x4 (ints pre)) (h5:Row C w x5 (ints las)) (hpl:pre.length=n) (hll:las.length=n) (hok:sD pre las n k) (hk:k≤6) (hn:n≤2000) (hi:i0 < n) :
  Calls Tryd.prog 85 #[.agg #[x0,x1,x2,x3,x4,x5,x6,x7,x8],.int .i64 (i0:Int)] w fun e w'=>e=.returned (.string (strOfNums (lets (wordI pre las i0))))∧w.grownBy w' none:=by
 obtain ⟨pb,po,pc,rfl,hpB,hpc1,hpc2,hra⟩:=h4.some_ (by rw [zM];omega)
 obtain ⟨qb,qo,qc,rfl,hqC,hqc1,hqc2,hrb⟩:=h5.some_ (by rw [zM];omega)
 rw [zM,hpl] at hpc1 ⊢
 rw [zM,hll] at hqc1 ⊢
 have hmx1:pc≤9223372036854775807:=by unfold maxLen at hpc2;omega
 have hmx2:qc≤9223372036854775807:=by unfold maxLen at hqc2;omega
 obtain ⟨wA,hWA⟩:∃ wA,wA=w.alloc (.cells #[x0,x1,x2,x3,.slice (some ⟨pb,po,none⟩) n pc,.slice (some ⟨qb,qo,none⟩) n qc,x6,x7,x8] 106):=⟨_,rfl⟩
 have hbox:wA.heap[w.heap.size]?=some (.cells #[x0,x1,x2,x3,.slice (some ⟨pb,po,none⟩) n pc,.slice (some ⟨qb,qo,none⟩) n qc,x6,x7,x8] 106 (0,0)):=by rw [hWA];exact heap_alloc_new w _
 have hgA:w.grownBy wA none:=by rw [hWA];exact Ga w _ none
 obtain ⟨P,hP⟩:∃ P,P=w.heap.size:=⟨_,rfl⟩
 have HPE:=Kh hP
 rw [← hP] at hbox hB hC
 have HBX:=Kh hbox;have HGA:=Kh hgA;have HWA:=Kh hWA;have HRA:=Kh (hra.kept hgA (by simp));have HRB:=Kh (hrb.kept hgA (by simp));have HOK:=Kh hok
 have HPL:=Kh hpl;have HLL:=Kh hll
 clear hbox hgA hWA hra hrb h4 h5 hpc2 hqc2 hok hpl hll
 go_enter Tryd.func85,Tryd.ntmps85
 go_upto_region 1 with fail
 rw [← HWA.out,← HPE.out]
 clear hP
 go_wp2
 go_loopg [1,5] n (fun gh i v5 wr=>∃ (j:Nat) (acc:List Nat),j≤gh∧j < n∧i=.int .i64 j∧v5=.string (strOfNums (lets acc))∧wordI pre las i0=wordI pre las j ++ acc∧acc.length≤2000∧wA.grownBy wr none)
 case atStart=>exact ⟨i0,[],by omega,hi,rfl,rfl,by simp,by simp,zX _ _⟩
 case round =>
  obtain ⟨j,acc,hg,hj,rfl,rfl,hw,hal,hgr⟩:=hrel
  have HW:=Kh hw;have HGR:=Kh hgr;have HG:=Kh hg
  obtain ⟨d0,d1,d2,d3,d4,d5,d6,d7,d8⟩:=zW (zE HBX.out hgr (by simp))
  have cl:=(HRB.out.kept hgr (by simp)).int j (by rw [HLL.out];exact hj)
  have cp:=(HRA.out.kept hgr (by simp)).int j (by rw [HPL.out];exact hj)
  have hjn:(j:Int) < n:=by omega
  clear hw hgr hg d0 d1 d2 d3 d6 d7 d8
  by_cases hl:las.getD j 0 < 0
  ·have HE:Hid (wordI pre las i0=acc):=Kh (by rw [HW.out,mN hl];rfl)
   obtain ⟨x,hx⟩:∃ x,x=las.getD j 0:=⟨_,rfl⟩
   rw [← hx] at cl hl
   clear hx
   go_wp2
   go_ret
   exact ⟨by rw [HE.out];rfl,zG HGA.out HGR.out⟩
  ·rcases HOK.out j hj with h1|⟨h1,h2,h3,h4⟩
   ·exact absurd h1 hl
   have hst:=mO HOK.out hj hl
   obtain ⟨a,ha⟩:∃ a:Nat,(a:Int)=las.getD j 0:=⟨(las.getD j 0).toNat,by omega⟩
   obtain ⟨p,hp⟩:∃ p:Nat,(p:Int)=pre.getD j 0:=⟨(pre.getD j 0).toNat,by omega⟩
   rw [← ha,← hp] at hst
   rw [← ha] at cl h1 h2
   rw [← hp] at cp h3 h4
   have hpj:p < j:=by omega
   have HE:Hid (wordI pre las i0=wordI pre las p ++ (a :: acc)):=Kh (by rw [HW.out,hst];simp)
   have hbd:=(mC HOK.out i0 hi).2
   have hacc:(a :: acc).length≤2000:=by
    have:=congrArg List.length HE.out
    rw [List.length_append] at this
    omega
   have ha26:a < 26:=by omega
   obtain ⟨X,hX⟩:∃ X,X=strOfNums [97+(a:Int)]:=⟨_,rfl⟩
   obtain ⟨Y,hY⟩:∃ Y,Y=strOfNums (lets acc):=⟨_,rfl⟩
   have hcc:∀ W:World,(Op.stringOp .add X Y).run Tryd.prog W=.ok (.string (X ++ Y)) W:=fun W=>run_string_add_sum W X Y (by
    rw [hX,hY,strOfNums_size,strOfNums_size];simp [lets];omega)
   have HXY:Hid (X ++ Y=strOfNums (lets (a :: acc))):=Kh (by rw [hX,hY,kZ];rfl)
   rw [← hY]
   have HL:=fun W=>Kh (mX W a ha26)
   rw [← hX] at HL
   clear hl hst ha hp h1 h2 h3 h4 hX hY hbd
   go_wp2_with fail
   refine (HL _).out.mono ?_
   rintro e w2 ⟨rfl,hg2⟩
   have HG2:=Kh (zG HGR.out hg2)
   obtain ⟨e0,e1,e2,e3,e4,e5,e6,e7,e8⟩:=zW (zE HBX.out HG2.out (by simp))
   have cp2:=(HRA.out.kept HG2.out (by simp)).int j (by rw [HPL.out];exact hj)
   have cp3:=zZ cp hg2
   clear hg2 e0 e1 e2 e3 e6 e7 e8 cp2 HL d4 d5
   go_wp2
   go_roundg p
   case measure=>have:=HG.out;omega
   case rel=>exact ⟨p,a :: acc,Nat.le_refl _,by omega,rfl,by rw [HXY.out],HE.out,hacc,HG2.out⟩
theorem kY (x n:Int) (hn:1≤n):-n < x.tmod n∧x.tmod n < n:=by
 constructor
 ·by_cases h:0≤x
  ·have:=Int.tmod_nonneg n h;omega
  ·have h1:=Int.tmod_lt_of_pos (-x) (show (0:Int) < n by omega)
   rw [Int.neg_tmod] at h1;omega
 ·exact Int.tmod_lt_of_pos x (by omega)
def modI (x n:Int):Int:=if n < 1 then 0 else if x.tmod n < 0 then x.tmod n+n else x.tmod n
theorem modI_nonneg (x n:Int):0≤modI x n:=by
 unfold modI;split
 ·omega
 ·have:=kY x n (by omega);split <;> omega
theorem modI_lt (x n:Int) (h:1≤n):modI x n < n:=by
 have:=kY x n h
 unfold modI;rw [if_neg (by omega)];split <;> omega
theorem modI_zero (x n:Int) (h:n < 1):modI x n=0:=by
 unfold modI;rw [if_pos h]
set_option maxHeartbeats 400000 in
theorem iE (x n:Int) (w:World) (hn:n≤9223372036854775807) :
  Calls Tryd.prog 19 #[.int .i64 x,.int .i64 n] w fun e w'=>e=.returned (.int .i64 (modI x n))∧w=w':=by
 by_cases h1:n < 1
 ·go_enter Tryd.func19,Tryd.ntmps19
  go_wp2
  go_ret
  exact ⟨yD (modI_zero x n (by omega)).symm,rfl⟩
 ·have hb1:=(kY x n (by omega)).1
  have hb2:=(kY x n (by omega)).2
  go_enter Tryd.func19,Tryd.ntmps19
  go_wp2
  all_goals (go_ret;exact ⟨yD (by unfold modI;rw [if_neg (by omega)];first|rw [if_pos (by omega)]|rw [if_neg (by omega)]),rfl⟩)
def xW (B:Nat) (w:World) (tb:Nat):Prop :=
 ∃ (sl:Value) (zs:List Int) (n:Nat),w.heap[tb]?=some (.cells #[sl,.int .i64 n] 73 (0,0))∧Row B w sl (zs.map (Value.int .i64))∧B≤tb∧n≤zs.length
theorem xW.lt {B:Nat} {w:World} {tb:Nat} (h:xW B w tb):tb < w.heap.size:=by
 obtain ⟨_,_,_,h,_⟩:=h
 exact (Array.getElem?_eq_some_iff.1 h).1
theorem xW.ge {B:Nat} {w:World} {tb:Nat} (h:xW B w tb):B≤tb:=by
 obtain ⟨_,_,_,_,_,h,_⟩:=h
 exact h
theorem xW.kept {B:Nat} {w w':World} {tb:Nat} {row:Option Nat} (h:xW B w tb) (hg:w.grownBy w' row) (hr:∀ k,row=some k→B≤k∧k≠tb):xW B w' tb:=by
 have hl:=h.lt
 obtain ⟨sl,zs,n,h1,h2,h3,h4⟩:=h
 exact ⟨sl,zs,n,(hg.block tb hl (fun e=>(hr tb e.symm).2 rfl)).trans h1,h2.kept hg (fun k e=>(hr k e).1),h3,h4⟩
theorem xW.of_heap {B:Nat} {w w':World} {tb:Nat} (h:xW B w tb) (e:w'.heap=w.heap):xW B w' tb:=by
 obtain ⟨sl,zs,n,h1,h2,h3,h4⟩:=h
 exact ⟨sl,zs,n,by rw [e];exact h1,h2.of_heap e,h3,h4⟩
theorem tape_step {B:Nat} {w:World} {tb:Nat} {sl:Value} {zs:List Int} {n:Nat} (h1:w.heap[tb]?=some (.cells #[sl,.int .i64 n] 73 (0,0))) (h2:Row B w sl (zs.map (Value.int .i64))) (h3:B≤tb) (h4:n < zs.length) :
  xW B (w.setCell ⟨tb,1,none⟩ (.int .i64 ((n:Int)+1))) tb :=
 ⟨sl,zs,n+1,heap_setCell_same w tb 1 _ _ _ h1,h2.kept (zH w ⟨tb,1,none⟩ _) (by simp;omega),h3,h4⟩
def Dealt (B tb:Nat) (w:World) (n:Int) (e:Ending) (w':World):Prop :=
 ∃ r:Int,e=.returned (.int .i64 r)∧0≤r∧(1≤n→r < n)∧xW B w' tb∧w.grownBy w' (some tb)
set_option maxHeartbeats 400000 in
theorem uV (B tb:Nat) (w:World) (n:Int) (hn:n≤9223372036854775807) (hT:xW B w tb) :
  Calls Tryd.prog 43 #[.pointer (some ⟨tb,0,none⟩),.int .i64 n] w (Dealt B tb w n):=by
 have HT:=Kh hT
 obtain ⟨sl,zs,at_,hblk,hrow,hB,hat⟩:=hT
 have c0:w.cell? ⟨tb,0,none⟩=some sl:=by rw [cell_of_row w tb 0 _ _ _ hblk];rfl
 have c1:w.cell? ⟨tb,1,none⟩=some (.int .i64 at_):=by rw [cell_of_row w tb 1 _ _ _ hblk];rfl
 have f1:w.frozen? ⟨tb,1,none⟩=false:=frozen_of_row w tb 1 _ _ hblk
 rcases hrow with ⟨sa,sc,rfl,hz⟩|⟨b,off,cap,rfl,hbB,hlc,hcm,hra⟩
 ·have HR:=Kh hz;have:zs=[]:=by simpa using hz
  subst this
  have:at_=0:=by simpa using hat
  subst this
  clear hblk hz
  go_enter Tryd.func43,Tryd.ntmps43
  go_wp2
  go_quiet (fail)
  go_wp2
  go_ret
  exact ⟨0,rfl,by omega,by omega,HT.out.kept (zJ _ _ none) (by simp),zJ _ _ _⟩
 ·rw [List.length_map] at hlc c0
  by_cases hlt:at_ < zs.length
  ·have hc:=hra.2 at_ (by simpa using hlt)
   have hne:b≠tb:=by omega
   have hmx:zs.length≤9223372036854775807:=by unfold maxLen at hcm;omega
   simp only [List.getElem_map] at hc
   have HB:=Kh hblk;have HR:=Kh hra;clear hblk hra
   go_enter Tryd.func43,Tryd.ntmps43
   go_wp2
   go_quiet (fail)
   go_wp2
   have e1:IntKind.i64.wrap (at_:Int)=at_:=IntWalk.i64_in _ (by omega)
   have e2:(at_:Int) < zs.length:=by omega
   go_quiet ((go_at_call 19;first|exact wF (iE _ _ _ hn)|exact quiet_add_left (iE _ _ _ hn)))
   go_wp2
   go_ret
   refine ⟨modI zs[at_] n,rfl,modI_nonneg _ _,modI_lt _ _,?_,?_⟩
   ·exact xW.of_heap (tape_step HB.out (.inr ⟨b,off,cap,by rw [List.length_map],hbB,by simpa using hlc,hcm,HR.out⟩) hB hlt) rfl
   ·exact xJ (zH w ⟨tb,1,none⟩ _) rfl rfl rfl rfl
  ·have hmx:zs.length≤9223372036854775807:=by unfold maxLen at hcm;omega
   clear hblk hra
   go_enter Tryd.func43,Tryd.ntmps43
   go_wp2
   go_quiet (fail)
   go_wp2
   go_ret
   exact ⟨0,rfl,by omega,by omega,HT.out.kept (zJ _ _ none) (by simp),zJ _ _ _⟩
def NewTape (B:Nat) (w:World) (e:Ending) (w':World):Prop :=
 e=.returned (.pointer (some ⟨w.heap.size,0,none⟩))∧xW B w' w.heap.size∧w.grownBy w' none
theorem jI {B:Nat} {w:World} {sl:Value} {zs:List Int} (h:Row B w sl (zs.map (Value.int .i64))) (hB:B≤w.heap.size) :
  NewTape B w (.returned (.pointer (some ⟨w.heap.size,0,none⟩))) (w.alloc (.cells #[sl,.int .i64 0] 73)) :=
 ⟨rfl,⟨sl,zs,0,heap_alloc_new w _,h.kept (Ga w _ none) (by simp),hB,Nat.zero_le _⟩,Ga w _ none⟩
theorem Row.cut {B:Nat} {w:World} {b off cap:Nat} {xs:List Value} (n:Nat) (hn:n≤xs.length) (hb:b < B) (hc:xs.length≤cap) (hm:cap≤maxLen) (h:RowAt w b off xs) :
  Row B w (.slice (some ⟨b,off,none⟩) n cap) (xs.take n) :=
 .inr ⟨b,off,cap,by rw [List.length_take,Nat.min_eq_left hn],hb,by rw [List.length_take];omega,hm,h.1,fun i hi=>by
  rw [List.length_take] at hi
  rw [h.2 i (by omega),List.getElem_take]⟩
set_option maxHeartbeats 400000 in
theorem new_any (B:Nat) (w:World) (sl:Value) (zs:List Int) (h:Row B w sl (zs.map (Value.int .i64))) (hB:B≤w.heap.size) :
  Calls Tryd.prog 11 #[sl] w (NewTape B w):=by
 have HH:=Kh h
 rcases h with ⟨sa,sc,rfl,hz⟩|⟨b,off,cap,rfl,hbB,hlc,hcm,hra⟩
 ·have HZ:=Kh hz;clear hz
  go_enter Tryd.func11,Tryd.ntmps11
  go_wp2
  go_ret
  exact jI HH.out hB
 ·rw [List.length_map] at *
  have hmx:cap≤9223372036854775807:=by unfold maxLen at hcm;omega
  by_cases h80:80 < zs.length
  ·go_enter Tryd.func11,Tryd.ntmps11
   go_wp2
   go_ret
   refine jI (zs:=zs.take 80) ?_ hB
   rw [List.map_take]
   exact Row.cut 80 (by simp;omega) hbB (by simpa using hlc) hcm hra
  ·go_enter Tryd.func11,Tryd.ntmps11
   go_wp2
   go_ret
   exact jI HH.out hB
end Go.Proofs.YtdjhoadoiknaoaaDoor
