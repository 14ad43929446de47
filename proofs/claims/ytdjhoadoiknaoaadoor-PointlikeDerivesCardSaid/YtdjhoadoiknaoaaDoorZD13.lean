/- Part 13 of the proof: EnumPlain, EWord, Made, Half, App1, MDfa, MWords. -/
import Derived.Test.YtdjhoadoiknaoaaDoorZD12
set_option linter.unusedVariables false
set_option linter.unusedSimpArgs false
namespace Go.Proofs.YtdjhoadoiknaoaaDoor
def cF (pre las:List Int):Nat→Nat→List Nat
 | 0,_=>[]
 | f+1,i=>if las.getD i 0 < 0 then [] else cF pre las f (pre.getD i 0).toNat ++ [(las.getD i 0).toNat]
def rQ (pre las:List Int) (i:Nat):List Nat:=cF pre las (i+1) i
def rJ (pre las:List Int) (n k:Nat):Prop:=∀ i,i < n→las.getD i 0 < 0∨(0≤las.getD i 0∧las.getD i 0 < k∧0≤pre.getD i 0∧pre.getD i 0 < i)
theorem wordE_two {pre las:List Int} {n k:Nat} (h:rJ pre las n k):∀ (i f g:Nat),i < n→i < f→i < g→cF pre las f i=cF pre las g i:=by
 intro i
 induction i using Nat.strongRecOn with
 | ind i ih =>
  intro f g hi hf hg
  match f,g,hf,hg with
  | f+1,g+1,hf,hg =>
   rw [cF,cF]
   split
   ·rfl
   ·rename_i hl
    rcases h i hi with h1|⟨h1,h2,h3,h4⟩
    ·exact absurd h1 hl
    ·rw [ih (pre.getD i 0).toNat (by omega) f g (by omega) (by omega) (by omega)]
theorem wordE_fuel {pre las:List Int} {n k:Nat} (h:rJ pre las n k) (f i:Nat) (hi:i < n) (hf:i < f):cF pre las f i=rQ pre las i:=wordE_two h i f (i+1) hi hf (by omega)
theorem jW {pre las:List Int} {i:Nat} (h:las.getD i 0 < 0):rQ pre las i=[]:=by rw [rQ,cF,if_pos h]
theorem jX {pre las:List Int} {n k i:Nat} (h:rJ pre las n k) (hi:i < n) (hl:¬ las.getD i 0 < 0):rQ pre las i=rQ pre las (pre.getD i 0).toNat ++ [(las.getD i 0).toNat]:=by
 rw [rQ,cF,if_neg hl]
 rcases h i hi with h1|⟨h1,h2,h3,h4⟩
 ·exact absurd h1 hl
 ·rw [wordE_fuel h i _ (by omega) (by omega)]
theorem kZ {pre las:List Int} {n k:Nat} (h:rJ pre las n k):∀ i,i < n→(∀ a∈rQ pre las i,a < k)∧(rQ pre las i).length≤i:=by
 intro i
 induction i using Nat.strongRecOn with
 | ind i ih =>
  intro hi
  by_cases hl:las.getD i 0 < 0
  ·rw [jW hl];exact ⟨fun a ha=>by simp at ha,by simp⟩
  ·rcases h i hi with h1|⟨h1,h2,h3,h4⟩
   ·exact absurd h1 hl
   ·rw [jX h hi hl]
    have:=ih (pre.getD i 0).toNat (by omega) (by omega)
    refine ⟨fun a ha=>?_,by rw [List.length_append,List.length_singleton];omega⟩
    rcases List.mem_append.1 ha with ha|ha
    ·exact this.1 a ha
    ·rw [List.mem_singleton] at ha;omega
def lets (w:List Nat):List Int:=w.map fun (a:Nat)=>97+(a:Int)
end Go.Proofs.YtdjhoadoiknaoaaDoor
namespace Go.Proofs.YtdjhoadoiknaoaaDoor
open Go.RowKit
theorem cK (a b:List Int):strOfNums a ++ strOfNums b=strOfNums (a ++ b):=by
 apply ByteArray.ext
 simp [strOfNums]
theorem yD {w w':World} {p:Addr} {u:Value} (h:w.cell? p=some u) (hg:w.grownBy w' none):w'.cell? p=some u:=(World.cell?_of_block (hg.block p.block (World.block_lt_of_cell? w p h) (by simp))).trans h
theorem zX {w:World} {p e:Nat} {x0 x1 x2 x3 x4 x5 x6 x7 x8:Value} (h:w.heap[p]?=some (.cells #[x0,x1,x2,x3,x4,x5,x6,x7,x8] e (0,0))) :
  w.cell? ⟨p,0,none⟩=some x0∧w.cell? ⟨p,1,none⟩=some x1∧w.cell? ⟨p,2,none⟩=some x2∧w.cell? ⟨p,3,none⟩=some x3∧w.cell? ⟨p,4,none⟩=some x4∧w.cell? ⟨p,5,none⟩=some x5∧w.cell? ⟨p,6,none⟩=some x6∧w.cell? ⟨p,7,none⟩=some x7∧w.cell? ⟨p,8,none⟩=some x8:=by
 have c0:=zI h 0 (by simp)
 have c1:=zI h 1 (by simp)
 have c2:=zI h 2 (by simp)
 have c3:=zI h 3 (by simp)
 have c4:=zI h 4 (by simp)
 have c5:=zI h 5 (by simp)
 have c6:=zI h 6 (by simp)
 have c7:=zI h 7 (by simp)
 have c8:=zI h 8 (by simp)
 simp only [List.getElem_toArray,List.getElem_cons_zero,List.getElem_cons_succ] at c0 c1 c2 c3 c4 c5 c6 c7 c8
 exact ⟨c0,c1,c2,c3,c4,c5,c6,c7,c8⟩
set_option maxRecDepth 100000 in
set_option maxHeartbeats 800000 in
theorem lH (B C:Nat) (w:World) (x0 x1 x2 x3 x4 x5 x6 x7 x8:Value) (pre las:List Int) (n k i0:Nat) (hB:B≤w.heap.size) (hC:C≤w.heap.size) (h4:Row B w x4 (ints pre)) (h5:Row C w x5 (ints las)) (hpl:pre.length=n) (hll:las.length=n) (hok:rJ pre las n k) (hk:k≤6) (hn:n≤2000) (hi:i0 < n) :
  Calls Tryd.prog 85 #[.agg #[x0,x1,x2,x3,x4,x5,x6,x7,x8],.int .i64 (i0:Int)] w fun e w'=>e=.returned (.string (strOfNums (lets (rQ pre las i0))))∧w.grownBy w' none:=by
 obtain ⟨pb,po,pc,rfl,hpB,hpc1,hpc2,hra⟩:=h4.some_ (by rw [zM];omega)
 obtain ⟨qb,qo,qc,rfl,hqC,hqc1,hqc2,hrb⟩:=h5.some_ (by rw [zM];omega)
 rw [zM,hpl] at hpc1 ⊢
 rw [zM,hll] at hqc1 ⊢
 have hmx1:pc≤9223372036854775807:=by unfold maxLen at hpc2;omega
 have hmx2:qc≤9223372036854775807:=by unfold maxLen at hqc2;omega
 obtain ⟨wA,hWA⟩:∃ wA,wA=w.alloc (.cells #[x0,x1,x2,x3,.slice (some ⟨pb,po,none⟩) n pc,.slice (some ⟨qb,qo,none⟩) n qc,x6,x7,x8] 106):=⟨_,rfl⟩
 have hbox:wA.heap[w.heap.size]?=some (.cells #[x0,x1,x2,x3,.slice (some ⟨pb,po,none⟩) n pc,.slice (some ⟨qb,qo,none⟩) n qc,x6,x7,x8] 106 (0,0)):=by rw [hWA];exact heap_alloc_new w _
 have hgA:w.grownBy wA none:=by rw [hWA];exact Ga w _ none
 obtain ⟨P,hP⟩:∃ P,P=w.heap.size:=⟨_,rfl⟩
 have HPE:=Kh hP
 rw [← hP] at hbox hB hC
 have HBX:=Kh hbox;have HGA:=Kh hgA;have HWA:=Kh hWA;have HRA:=Kh (hra.kept hgA (by simp));have HRB:=Kh (hrb.kept hgA (by simp));have HOK:=Kh hok
 have HPL:=Kh hpl;have HLL:=Kh hll
 clear hbox hgA hWA hra hrb h4 h5 hpc2 hqc2 hok hpl hll
 go_enter Tryd.func85,Tryd.ntmps85
 go_upto_region 1 with fail
 rw [← HWA.out,← HPE.out]
 clear hP
 go_wp2
 go_loopg [1,5] n (fun gh i v5 wr=>∃ (j:Nat) (acc:List Nat),j≤gh∧j < n∧i=.int .i64 j∧v5=.string (strOfNums (lets acc))∧rQ pre las i0=rQ pre las j ++ acc∧acc.length≤2000∧wA.grownBy wr none)
 case atStart=>exact ⟨i0,[],by omega,hi,rfl,rfl,by simp,by simp,zW _ _⟩
 case round =>
  obtain ⟨j,acc,hg,hj,rfl,rfl,hw,hal,hgr⟩:=hrel
  have HW:=Kh hw;have HGR:=Kh hgr;have HG:=Kh hg
  obtain ⟨d0,d1,d2,d3,d4,d5,d6,d7,d8⟩:=zX (zE HBX.out hgr (by simp))
  have cl:=(HRB.out.kept hgr (by simp)).int j (by rw [HLL.out];exact hj)
  have cp:=(HRA.out.kept hgr (by simp)).int j (by rw [HPL.out];exact hj)
  have hjn:(j:Int) < n:=by omega
  clear hw hgr hg d0 d1 d2 d3 d6 d7 d8
  by_cases hl:las.getD j 0 < 0
  ·have HE:Hid (rQ pre las i0=acc):=Kh (by rw [HW.out,jW hl];rfl)
   obtain ⟨x,hx⟩:∃ x,x=las.getD j 0:=⟨_,rfl⟩
   rw [← hx] at cl hl
   clear hx
   go_wp2
   go_ret
   exact ⟨by rw [HE.out];rfl,zF HGA.out HGR.out⟩
  ·rcases HOK.out j hj with h1|⟨h1,h2,h3,h4⟩
   ·exact absurd h1 hl
   have hst:=jX HOK.out hj hl
   obtain ⟨a,ha⟩:∃ a:Nat,(a:Int)=las.getD j 0:=⟨(las.getD j 0).toNat,by omega⟩
   obtain ⟨p,hp⟩:∃ p:Nat,(p:Int)=pre.getD j 0:=⟨(pre.getD j 0).toNat,by omega⟩
   rw [← ha,← hp] at hst
   rw [← ha] at cl h1 h2
   rw [← hp] at cp h3 h4
   have hpj:p < j:=by omega
   have HE:Hid (rQ pre las i0=rQ pre las p ++ (a :: acc)):=Kh (by rw [HW.out,hst];simp)
   have hbd:=(kZ HOK.out i0 hi).2
   have hacc:(a :: acc).length≤2000:=by
    have:=congrArg List.length HE.out
    rw [List.length_append] at this
    omega
   have ha26:a < 26:=by omega
   obtain ⟨X,hX⟩:∃ X,X=strOfNums [97+(a:Int)]:=⟨_,rfl⟩
   obtain ⟨Y,hY⟩:∃ Y,Y=strOfNums (lets acc):=⟨_,rfl⟩
   have hcc:∀ W:World,(Op.stringOp .add X Y).run Tryd.prog W=.ok (.string (X ++ Y)) W:=fun W=>run_string_add_sum W X Y (by
    rw [hX,hY,strOfNums_size,strOfNums_size];simp [lets];omega)
   have HXY:Hid (X ++ Y=strOfNums (lets (a :: acc))):=Kh (by rw [hX,hY,cK];rfl)
   rw [← hY]
   have HL:=fun W=>Kh (iK W a ha26)
   rw [← hX] at HL
   clear hl hst ha hp h1 h2 h3 h4 hX hY hbd
   go_wp2_with fail
   refine (HL _).out.mono ?_
   rintro e w2 ⟨rfl,hg2⟩
   have HG2:=Kh (zF HGR.out hg2)
   obtain ⟨e0,e1,e2,e3,e4,e5,e6,e7,e8⟩:=zX (zE HBX.out HG2.out (by simp))
   have cp2:=(HRA.out.kept HG2.out (by simp)).int j (by rw [HPL.out];exact hj)
   have cp3:=yD cp hg2
   clear hg2 e0 e1 e2 e3 e6 e7 e8 cp2 HL d4 d5
   go_wp2
   go_roundg p
   case measure=>have:=HG.out;omega
   case rel=>exact ⟨p,a :: acc,Nat.le_refl _,by omega,rfl,by rw [HXY.out],HE.out,hacc,HG2.out⟩
theorem cH (x n:Int) (hn:1≤n):-n < x.tmod n∧x.tmod n < n:=by
 constructor
 ·by_cases h:0≤x
  ·have:=Int.tmod_nonneg n h;omega
  ·have h1:=Int.tmod_lt_of_pos (-x) (show (0:Int) < n by omega)
   rw [Int.neg_tmod] at h1;omega
 ·exact Int.tmod_lt_of_pos x (by omega)
def modI (x n:Int):Int:=if n < 1 then 0 else if x.tmod n < 0 then x.tmod n+n else x.tmod n
theorem pB (x n:Int):0≤modI x n:=by
 unfold modI;split
 ·omega
 ·have:=cH x n (by omega);split <;> omega
theorem eB (x n:Int) (h:1≤n):modI x n < n:=by
 have:=cH x n h
 unfold modI;rw [if_neg (by omega)];split <;> omega
theorem modI_zero (x n:Int) (h:n < 1):modI x n=0:=by
 unfold modI;rw [if_pos h]
set_option maxHeartbeats 400000 in
theorem nK (x n:Int) (w:World) (hn:n≤9223372036854775807) :
  Calls Tryd.prog 19 #[.int .i64 x,.int .i64 n] w fun e w'=>e=.returned (.int .i64 (modI x n))∧w=w':=by
 by_cases h1:n < 1
 ·go_enter Tryd.func19,Tryd.ntmps19
  go_wp2
  go_ret
  exact ⟨yH (modI_zero x n (by omega)).symm,rfl⟩
 ·have hb1:=(cH x n (by omega)).1
  have hb2:=(cH x n (by omega)).2
  go_enter Tryd.func19,Tryd.ntmps19
  go_wp2
  all_goals (go_ret;exact ⟨yH (by unfold modI;rw [if_neg (by omega)];first|rw [if_pos (by omega)]|rw [if_neg (by omega)]),rfl⟩)
def wD (B:Nat) (w:World) (tb:Nat):Prop :=
 ∃ (sl:Value) (zs:List Int) (n:Nat),w.heap[tb]?=some (.cells #[sl,.int .i64 n] 73 (0,0))∧Row B w sl (zs.map (Value.int .i64))∧B≤tb∧n≤zs.length
theorem wD.lt {B:Nat} {w:World} {tb:Nat} (h:wD B w tb):tb < w.heap.size:=by
 obtain ⟨_,_,_,h,_⟩:=h
 exact (Array.getElem?_eq_some_iff.1 h).1
theorem wD.ge {B:Nat} {w:World} {tb:Nat} (h:wD B w tb):B≤tb:=by
 obtain ⟨_,_,_,_,_,h,_⟩:=h
 exact h
theorem wD.kept {B:Nat} {w w':World} {tb:Nat} {row:Option Nat} (h:wD B w tb) (hg:w.grownBy w' row) (hr:∀ k,row=some k→B≤k∧k≠tb):wD B w' tb:=by
 have hl:=h.lt
 obtain ⟨sl,zs,n,h1,h2,h3,h4⟩:=h
 exact ⟨sl,zs,n,(hg.block tb hl (fun e=>(hr tb e.symm).2 rfl)).trans h1,h2.kept hg (fun k e=>(hr k e).1),h3,h4⟩
theorem wD.of_heap {B:Nat} {w w':World} {tb:Nat} (h:wD B w tb) (e:w'.heap=w.heap):wD B w' tb:=by
 obtain ⟨sl,zs,n,h1,h2,h3,h4⟩:=h
 exact ⟨sl,zs,n,by rw [e];exact h1,h2.of_heap e,h3,h4⟩
theorem tape_step {B:Nat} {w:World} {tb:Nat} {sl:Value} {zs:List Int} {n:Nat} (h1:w.heap[tb]?=some (.cells #[sl,.int .i64 n] 73 (0,0))) (h2:Row B w sl (zs.map (Value.int .i64))) (h3:B≤tb) (h4:n < zs.length) :
  wD B (w.setCell ⟨tb,1,none⟩ (.int .i64 ((n:Int)+1))) tb :=
 ⟨sl,zs,n+1,heap_setCell_same w tb 1 _ _ _ h1,h2.kept (zH w ⟨tb,1,none⟩ _) (by simp;omega),h3,h4⟩
def Dealt (B tb:Nat) (w:World) (n:Int) (e:Ending) (w':World):Prop :=
 ∃ r:Int,e=.returned (.int .i64 r)∧0≤r∧(1≤n→r < n)∧wD B w' tb∧w.grownBy w' (some tb)
set_option maxHeartbeats 400000 in
theorem tN (B tb:Nat) (w:World) (n:Int) (hn:n≤9223372036854775807) (hT:wD B w tb) :
  Calls Tryd.prog 43 #[.pointer (some ⟨tb,0,none⟩),.int .i64 n] w (Dealt B tb w n):=by
 have HT:=Kh hT
 obtain ⟨sl,zs,at_,hblk,hrow,hB,hat⟩:=hT
 have c0:w.cell? ⟨tb,0,none⟩=some sl:=by rw [cell_of_row w tb 0 _ _ _ hblk];rfl
 have c1:w.cell? ⟨tb,1,none⟩=some (.int .i64 at_):=by rw [cell_of_row w tb 1 _ _ _ hblk];rfl
 have f1:w.frozen? ⟨tb,1,none⟩=false:=frozen_of_row w tb 1 _ _ hblk
 rcases hrow with ⟨sa,sc,rfl,hz⟩|⟨b,off,cap,rfl,hbB,hlc,hcm,hra⟩
 ·have HR:=Kh hz;have:zs=[]:=by simpa using hz
  subst this
  have:at_=0:=by simpa using hat
  subst this
  clear hblk hz
  go_enter Tryd.func43,Tryd.ntmps43
  go_wp2
  go_quiet (fail)
  go_wp2
  go_ret
  exact ⟨0,rfl,by omega,by omega,HT.out.kept (zJ _ _ none) (by simp),zJ _ _ _⟩
 ·rw [List.length_map] at hlc c0
  by_cases hlt:at_ < zs.length
  ·have hc:=hra.2 at_ (by simpa using hlt)
   have hne:b≠tb:=by omega
   have hmx:zs.length≤9223372036854775807:=by unfold maxLen at hcm;omega
   simp only [List.getElem_map] at hc
   have HB:=Kh hblk;have HR:=Kh hra;clear hblk hra
   go_enter Tryd.func43,Tryd.ntmps43
   go_wp2
   go_quiet (fail)
   go_wp2
   have e1:IntKind.i64.wrap (at_:Int)=at_:=IntWalk.i64_in _ (by omega)
   have e2:(at_:Int) < zs.length:=by omega
   go_quiet ((go_at_call 19;first|exact wO (nK _ _ _ hn)|exact kF (nK _ _ _ hn)))
   go_wp2
   go_ret
   refine ⟨modI zs[at_] n,rfl,pB _ _,eB _ _,?_,?_⟩
   ·exact wD.of_heap (tape_step HB.out (.inr ⟨b,off,cap,by rw [List.length_map],hbB,by simpa using hlc,hcm,HR.out⟩) hB hlt) rfl
   ·exact zP (zH w ⟨tb,1,none⟩ _) rfl rfl rfl rfl
  ·have hmx:zs.length≤9223372036854775807:=by unfold maxLen at hcm;omega
   clear hblk hra
   go_enter Tryd.func43,Tryd.ntmps43
   go_wp2
   go_quiet (fail)
   go_wp2
   go_ret
   exact ⟨0,rfl,by omega,by omega,HT.out.kept (zJ _ _ none) (by simp),zJ _ _ _⟩
def qDO (B:Nat) (w:World) (e:Ending) (w':World):Prop :=
 e=.returned (.pointer (some ⟨w.heap.size,0,none⟩))∧wD B w' w.heap.size∧w.grownBy w' none
theorem bA {B:Nat} {w:World} {sl:Value} {zs:List Int} (h:Row B w sl (zs.map (Value.int .i64))) (hB:B≤w.heap.size) :
  qDO B w (.returned (.pointer (some ⟨w.heap.size,0,none⟩))) (w.alloc (.cells #[sl,.int .i64 0] 73)) :=
 ⟨rfl,⟨sl,zs,0,heap_alloc_new w _,h.kept (Ga w _ none) (by simp),hB,Nat.zero_le _⟩,Ga w _ none⟩
theorem Row.cut {B:Nat} {w:World} {b off cap:Nat} {xs:List Value} (n:Nat) (hn:n≤xs.length) (hb:b < B) (hc:xs.length≤cap) (hm:cap≤maxLen) (h:uD w b off xs) :
  Row B w (.slice (some ⟨b,off,none⟩) n cap) (xs.take n) :=
 .inr ⟨b,off,cap,by rw [List.length_take,Nat.min_eq_left hn],hb,by rw [List.length_take];omega,hm,h.1,fun i hi=>by
  rw [List.length_take] at hi
  rw [h.2 i (by omega),List.getElem_take]⟩
set_option maxHeartbeats 400000 in
theorem new_any (B:Nat) (w:World) (sl:Value) (zs:List Int) (h:Row B w sl (zs.map (Value.int .i64))) (hB:B≤w.heap.size) :
  Calls Tryd.prog 11 #[sl] w (qDO B w):=by
 have HH:=Kh h
 rcases h with ⟨sa,sc,rfl,hz⟩|⟨b,off,cap,rfl,hbB,hlc,hcm,hra⟩
 ·have HZ:=Kh hz;clear hz
  go_enter Tryd.func11,Tryd.ntmps11
  go_wp2
  go_ret
  exact bA HH.out hB
 ·rw [List.length_map] at *
  have hmx:cap≤9223372036854775807:=by unfold maxLen at hcm;omega
  by_cases h80:80 < zs.length
  ·go_enter Tryd.func11,Tryd.ntmps11
   go_wp2
   go_ret
   refine bA (zs:=zs.take 80) ?_ hB
   rw [List.map_take]
   exact Row.cut 80 (by simp;omega) hbB (by simpa using hlc) hcm hra
  ·go_enter Tryd.func11,Tryd.ntmps11
   go_wp2
   go_ret
   exact bA HH.out hB
structure OwnsT (base:Nat) (W:World) (hs:List Value) (t:List (List Int)):Prop where
 len:hs.length=t.length
 own:∀ i (h:i < hs.length) (h':i < t.length),W.ownsRow base 3 1 hs[i] t[i].length (ints t[i])
 dis:∀ i j (hi:i < hs.length) (hj:j < hs.length),i≠j→∀ k,hs[i].ownBlock=some k→hs[j].ownBlock≠some k
section
variable {base:Nat} {W W':World} {hs:List Value} {t:List (List Int)}
theorem OwnsT.nil:OwnsT base W [] []:=⟨rfl,fun i h=>by simp at h,fun i j h=>by simp at h⟩
theorem OwnsT.rowsT (h:OwnsT base W hs t):rY W.heap.size 3 ints W hs t:=⟨h.len,fun i h1 h2=>RowT.of_owns (h.own i h1 h2)⟩
theorem owns_keep {row:Option Nat} {v:Value} {n:Nat} {xs:List Value} (h:W.ownsRow base 3 1 v n xs) (hg:W.grownBy W' row) (hr:∀ k,row=some k→k < base∨wK W 3 k):W'.ownsRow base 3 1 v n xs:=by
 refine h.kept hg ?_
 rcases hv:v.ownBlock with _|k
 ·exact .inl rfl
 ·refine .inr fun e=>?_
  rcases hr k e.symm with hk|⟨c,e',m,hp,hne⟩
  ·have:=(h.lt k hv).1;omega
  ·exact zS h hp (Ne.symm hne) hv
theorem OwnsT.kept {row:Option Nat} (h:OwnsT base W hs t) (hg:W.grownBy W' row) (hr:∀ k,row=some k→k < base∨wK W 3 k):OwnsT base W' hs t :=
 ⟨h.len,fun i h1 h2=>owns_keep (h.own i h1 h2) hg hr,h.dis⟩
theorem OwnsT.snoc {v:Value} {r:List Int} (h:OwnsT base W hs t) (ho:W.ownsRow base 3 1 v r.length (ints r)) (hd:∀ i (hi:i < hs.length),∀ k,hs[i].ownBlock=some k→v.ownBlock≠some k):OwnsT base W (hs ++ [v]) (t ++ [r]):=by
 have hl:=h.len
 refine ⟨by simp [hl],fun i h1 h2=>?_,fun i j hi hj hij k hk=>?_⟩
 ·by_cases hi:i < hs.length
  ·have:=h.own i hi (by omega)
   rw [List.getElem_append_left hi]
   simp only [List.getElem_append_left (show i < t.length by omega)]
   exact this
  ·have e:i=hs.length:=by simp at h1;omega
   subst e
   rw [List.getElem_append_right (Nat.le_refl _)]
   simp only [List.getElem_append_right (show t.length≤hs.length by omega)]
   simpa [hl] using ho
 ·simp only [List.length_append,List.length_singleton] at hi hj
  by_cases h1:i < hs.length
  ·rw [List.getElem_append_left h1] at hk
   by_cases h2:j < hs.length
   ·rw [List.getElem_append_left h2];exact h.dis i j h1 h2 hij k hk
   ·have e:j=hs.length:=by omega
    subst e
    rw [List.getElem_append_right (Nat.le_refl _)]
    simpa using hd i h1 k hk
  ·have e:i=hs.length:=by omega
   subst e
   rw [List.getElem_append_right (Nat.le_refl _)] at hk
   have h2:j < hs.length:=by omega
   rw [List.getElem_append_left h2]
   intro e
   exact hd j h2 k e (by simpa using hk)
theorem OwnsT.lt (h:OwnsT base W hs t) {i:Nat} (hi:i < hs.length) {k:Nat} (hk:hs[i].ownBlock=some k):base≤k∧k < W.heap.size:=(h.own i hi (by rw [← h.len];exact hi)).lt k hk
theorem OwnsT.at (h:OwnsT base W hs t) {q:Nat} (hq:q < t.length) (hp:0 < (t.getD q []).length):∃ g c,hs[q]?=some (.slice (some ⟨g,0,none⟩) (t.getD q []).length c)∧(t.getD q []).length≤c∧c≤maxLen∧base≤g∧Arr W g 3 (ints (t.getD q [])):=by
 have hq':q < hs.length:=by rw [h.len];exact hq
 have ho:=h.own q hq' hq
 have e:t.getD q []=t[q]:=by simp [List.getD_eq_getElem?_getD,hq]
 rw [e] at hp ⊢
 obtain ⟨sa,sc,hv⟩:=rB ho
 rw [hv] at ho
 obtain ⟨kb,rfl,h1,h2,h3⟩:=yK ho hp
 refine ⟨kb,sc,by rw [List.getElem?_eq_getElem hq',hv],h1,h2,(ho.lt kb rfl).1,h3⟩
theorem OwnsT.poke (h:OwnsT base W hs t) {q g a c n:Nat} (hv:hs[q]?=some (.slice (some ⟨g,0,none⟩) n c)) (ha:a < (t.getD q []).length) (x:Int):OwnsT base (W.setCell ⟨g,a,none⟩ (.int .i64 x)) hs (t.set q ((t.getD q []).set a x)):=by
 obtain ⟨hq,he⟩:=List.getElem?_eq_some_iff.1 hv
 have hl:=h.len
 have hg:=zH W ⟨g,a,none⟩ (.int .i64 x)
 refine ⟨by simp [hl],fun i h1 h2=>?_,h.dis⟩
 rw [List.length_set] at h2
 by_cases e:q=i
 ·subst e
  have ho:=h.own q h1 h2
  have e2:t.getD q []=t[q]:=by simp [List.getD_eq_getElem?_getD,h2]
  rw [e2] at ha
  simp only [List.getElem_set_self,e2]
  rw [he] at ho ⊢
  obtain ⟨hl1,ho⟩:=ho
  refine ⟨by simp [ints],?_⟩
  rcases ho with ⟨h7,_⟩|⟨g',cap,cur,hs',hb,hgc,hc1,hc2,hc3,hc4⟩
  ·simp at h7
  ·simp only [Value.slice.injEq,Option.some.injEq,Addr.mk.injEq,and_true] at hs'
   obtain ⟨rfl,hn,rfl⟩:=hs'
   subst hn
   refine .inr ⟨g,c,cur.setIfInBounds a (.int .i64 x),by simp,hb,heap_setCell_same W g a _ _ _ hgc,by simpa using hc1,hc2,by simpa using hc3,?_⟩
   simp only [List.length_set,Nat.mul_one] at hc4 ⊢
   rw [Array.toList_setIfInBounds,List.take_set,hc4]
   simp [ints,List.map_set]
 ·have ho:=h.own i h1 h2
  simp only [List.getElem_set_ne e]
  exact ho.kept hg (by
   rcases hv2:hs[i].ownBlock with _|k
   ·exact .inl rfl
   ·refine .inr fun e3=>?_
    have e3:=Oj e3
    subst e3
    exact h.dis i q h1 hq (fun e4=>e e4.symm) _ hv2 (by rw [he];rfl))
end
structure Half (base:Nat) (W:World) (o:Nat) (L S:Int) (fs:List Bool) (t:List (List Int)) (hs:List Value) (sf:Option Addr) (cf:Nat) (sn:Option Addr) (cn:Nat):Prop where
 box:W.heap[o]?=some (.cells #[.int .i64 L,.int .i64 S,.slice sf fs.length cf,.slice sn t.length cn] 28 (0,0))
 ownF:W.ownsRow base 4 1 (.slice sf fs.length cf) fs.length (bls fs)
 ownN:W.ownsRow base 22 1 (.slice sn t.length cn) t.length hs
 rows:OwnsT base W hs t
section
variable {base o:Nat} {W W':World} {L S:Int} {fs:List Bool} {t:List (List Int)} {hs:List Value} {sf sn:Option Addr} {cf cn:Nat}
theorem Half.built (h:Half base W o L S fs t hs sf cf sn cn) (hl:fs.length=t.length):Built base W o L S fs t hs sf cf sn cn:=⟨h.box,h.ownF,h.ownN,h.rows.rowsT,hl⟩
theorem Half.far {r:Nat} {cs:Array Value} {m:Nat × Nat} (h:Half base W o L S fs t hs sf cf sn cn) (hg:W.grownBy W' (some r)) (hr:W.heap[r]?=some (.cells cs 28 m)) (hne:r≠o):Half base W' o L S fs t hs sf cf sn cn where
 box:=zE h.box hg (fun e=>hne (Oj e))
 ownF:=h.ownF.kept hg (.inr (zS h.ownF hr (by decide)))
 ownN:=h.ownN.kept hg (.inr (zS h.ownN hr (by decide)))
 rows:=h.rows.kept hg (fun k hk=>.inr (by have:=Oj hk;subst this;exact ⟨_,_,_,hr,by decide⟩))
theorem Half.grow (h:Half base W o L S fs t hs sf cf sn cn) (hg:W.grownBy W' none):Half base W' o L S fs t hs sf cf sn cn where
 box:=zE h.box hg (by simp)
 ownF:=yF h.ownF hg (by simp)
 ownN:=yF h.ownN hg (by simp)
 rows:=h.rows.kept hg (by simp)
theorem Half.tape {B tb:Nat} (h:Half base W o L S fs t hs sf cf sn cn) (hT:wD B W tb) (hg:W.grownBy W' (some tb)):Half base W' o L S fs t hs sf cf sn cn:=by
 obtain ⟨sl,zs,n,hr,_⟩:=hT
 refine ⟨zE h.box hg (fun e=>?_),h.ownF.kept hg (.inr (zS h.ownF hr (by decide))),h.ownN.kept hg (.inr (zS h.ownN hr (by decide))),?_⟩
 ·have e:=Oj e
  have h1:=h.box
  rw [← e,hr] at h1
  simp at h1
 ·exact h.rows.kept hg (fun k hk=>.inr (by have:=Oj hk;subst this;exact ⟨_,_,_,hr,by decide⟩))
theorem qBJ {w:World} {base e e' n n':Nat} {v v':Value} {xs ys:List Value} (h:w.ownsRow base e 1 v n xs) (h':w.ownsRow base e' 1 v' n' ys) (hne:e≠e'):v.ownBlock=none∨v.ownBlock≠v'.ownBlock:=by
 rcases hv:v.ownBlock with _|k
 ·exact .inl rfl
 ·refine .inr (fun e2=>?_)
  obtain ⟨c,e3,m,hp,h3⟩:=tU h' (Ne.symm hne) k e2.symm
  exact zS h hp (Ne.symm h3) hv
theorem Half.pushF {b:Bool} {sf':Option Addr} {cf':Nat} (h:Half base W o L S fs t hs sf cf sn cn) (ho:W'.ownsRow base 4 1 (.slice sf' (fs.length+1) cf') (fs.length+1) (bls fs ++ [.bool b])) (hg:W.grownBy W' (Value.slice sf fs.length cf).ownBlock) {W2:World} (hW2:W2=W'.setCell ⟨o,2,none⟩ (.slice sf' (fs.length+1) cf')) :
  Half base W2 o L S (fs ++ [b]) t hs sf' cf' sn cn∧∀ w0:World,w0.grownBy W (some o)→w0.heap.size≤base→w0.grownBy W2 (some o):=by
 have hbox:=zE h.box hg (fun e=>zS h.ownF h.box (by decide) e)
 have s1:=heap_setCell_same W' o 2 _ _ (.slice sf' (fs.length+1) cf') hbox
 have g1:W'.grownBy W2 (some o):=by rw [hW2];exact zH W' ⟨o,2,none⟩ _
 have hoth:wK W' 3 o:=⟨_,_,_,hbox,by decide⟩
 have hN:=h.ownN.kept hg (qBJ h.ownN h.ownF (by decide))
 have hR:=h.rows.kept hg (fun k hk=>.inr (tU h.ownF (by decide) k hk))
 refine ⟨⟨?_,?_,hN.kept g1 (.inr (zS hN hbox (by decide))),hR.kept g1 (fun k hk=>.inr (by have:=Oj hk;subst this;exact hoth))⟩,fun w0 hw0 hb=>?_⟩
 ·rw [hW2,s1];simp
 ·have:=ho.kept g1 (.inr (zS ho hbox (by decide)))
  rw [List.length_append]
  simpa [bls] using this
 ·exact zF (zG hw0 hg (fun k hk=>Nat.le_trans hb (h.ownF.lt k hk).1)) g1
theorem Half.pushN {row:List Int} {rv:Value} {sn':Option Addr} {cn':Nat} (h:Half base W o L S fs t hs sf cf sn cn) (ho:W'.ownsRow base 22 1 (.slice sn' (t.length+1) cn') (t.length+1) (hs ++ [rv])) (hg:W.grownBy W' (Value.slice sn t.length cn).ownBlock)
  (hrow:W.ownsRow base 3 1 rv row.length (ints row)) (hdis:∀ i (hi:i < hs.length),∀ k,hs[i].ownBlock=some k→rv.ownBlock≠some k) {W2:World} (hW2:W2=W'.setCell ⟨o,3,none⟩ (.slice sn' (t.length+1) cn')) :
  Half base W2 o L S fs (t ++ [row]) (hs ++ [rv]) sf cf sn' cn'∧∀ w0:World,w0.grownBy W (some o)→w0.heap.size≤base→w0.grownBy W2 (some o):=by
 have hbox:=zE h.box hg (fun e=>zS h.ownN h.box (by decide) e)
 have s1:=heap_setCell_same W' o 3 _ _ (.slice sn' (t.length+1) cn') hbox
 have g1:W'.grownBy W2 (some o):=by rw [hW2];exact zH W' ⟨o,3,none⟩ _
 have hoth:wK W' 3 o:=⟨_,_,_,hbox,by decide⟩
 have hF:=h.ownF.kept hg (qBJ h.ownF h.ownN (by decide))
 have hR:=(h.rows.snoc hrow hdis).kept hg (fun k hk=>.inr (tU h.ownN (by decide) k hk))
 refine ⟨⟨?_,hF.kept g1 (.inr (zS hF hbox (by decide))),?_,hR.kept g1 (fun k hk=>.inr (by have:=Oj hk;subst this;exact hoth))⟩,fun w0 hw0 hb=>?_⟩
 ·rw [hW2,s1];simp
 ·have:=ho.kept g1 (.inr (zS ho hbox (by decide)))
  rw [List.length_append]
  exact this
 ·exact zF (zG hw0 hg (fun k hk=>Nat.le_trans hb (h.ownN.lt k hk).1)) g1
end
def qCD (w w':World) (v:Value) (m:DfaV):Prop:=∃ (o:Nat) (hs:List Value) (sf:Option Addr) (cf:Nat) (sn:Option Addr) (cn:Nat),
 v=.agg #[.int .i64 m.letters,.int .i64 m.start,.slice sf m.final.length cf,.slice sn m.next.length cn]∧w.heap.size≤o∧Half w.heap.size w' o m.letters m.start m.final m.next hs sf cf sn cn
theorem Half.base {base base' o:Nat} {W:World} {L S:Int} {fs:List Bool} {t:List (List Int)} {hs:List Value} {sf sn:Option Addr} {cf cn:Nat} (h:Half base W o L S fs t hs sf cf sn cn) (hb:base'≤base):Half base' W o L S fs t hs sf cf sn cn :=
 ⟨h.box,yJ h.ownF hb,yJ h.ownN hb,⟨h.rows.len,fun i h1 h2=>yJ (h.rows.own i h1 h2) hb,h.rows.dis⟩⟩
theorem Half.at {base o:Nat} {W:World} {L S:Int} {fs:List Bool} {t:List (List Int)} {hs:List Value} {sf sn:Option Addr} {cf cn:Nat} (h:Half base W o L S fs t hs sf cf sn cn) {q:Nat} (hq:q < t.length) (hp:0 < (t.getD q []).length) :
  ∃ kb g c,sn=some ⟨kb,0,none⟩∧t.length≤cn∧cn≤maxLen∧hs[q]?=some (.slice (some ⟨g,0,none⟩) (t.getD q []).length c)∧W.cell? ⟨kb,q,none⟩=some (.slice (some ⟨g,0,none⟩) (t.getD q []).length c)∧(t.getD q []).length≤c∧c≤maxLen∧base≤g∧Arr W g 3 (ints (t.getD q [])):=by
 obtain ⟨kb,rfl,h1,h2,h3⟩:=yK h.ownN (by omega)
 obtain ⟨g,c,h4,h5,h6,h7,h8⟩:=h.rows.at hq hp
 obtain ⟨hq',he⟩:=List.getElem?_eq_some_iff.1 h4
 exact ⟨kb,g,c,rfl,h1,h2,h4,by rw [h3.cell q hq',he],h5,h6,h7,h8⟩
theorem Half.poke {base o:Nat} {W:World} {L S:Int} {fs:List Bool} {t:List (List Int)} {hs:List Value} {sf sn:Option Addr} {cf cn:Nat} (h:Half base W o L S fs t hs sf cf sn cn) {q g a c n:Nat} (hv:hs[q]?=some (.slice (some ⟨g,0,none⟩) n c)) (hA:Arr W g 3 (ints (t.getD q []))) (ha:a < (t.getD q []).length) (x:Int) :
  Half base (W.setCell ⟨g,a,none⟩ (.int .i64 x)) o L S fs (t.set q ((t.getD q []).set a x)) hs sf cf sn cn:=by
 obtain ⟨cur,rest,hg,_⟩:=hA
 have hgr:=zH W ⟨g,a,none⟩ (.int .i64 x)
 refine ⟨?_,h.ownF.kept hgr (.inr (zS h.ownF hg (by decide))),?_,h.rows.poke hv ha x⟩
 ·rw [List.length_set]
  refine zE h.box hgr (fun e=>?_)
  have e:g=o:=Oj e
  subst e
  have:=h.box
  rw [hg] at this
  simp at this
 ·rw [List.length_set]
  exact h.ownN.kept hgr (.inr (zS h.ownN hg (by decide)))
theorem Half.move {base o o':Nat} {W:World} {L S L' S':Int} {fs:List Bool} {t:List (List Int)} {hs:List Value} {sf sn:Option Addr} {cf cn:Nat} (h:Half base W o L S fs t hs sf cf sn cn) (hb:W.heap[o']?=some (.cells #[.int .i64 L',.int .i64 S',.slice sf fs.length cf,.slice sn t.length cn] 28 (0,0))):Half base W o' L' S' fs t hs sf cf sn cn:=⟨hb,h.ownF,h.ownN,h.rows⟩
def pL (t:List (List Int)) (n k:Nat):Prop:=∀ r∈t,r.length=k∧∀ x∈r,0≤x∧x < n
theorem tH {α:Type} {l:List α} {d:α} {q:Nat} (h:q < l.length):l.getD q d∈l:=by
 rw [List.getD_eq_getElem?_getD,List.getElem?_eq_getElem h];exact List.getElem_mem _
theorem pL.set {t:List (List Int)} {n k q a:Nat} {x:Int} (h:pL t n k) (hq:q < t.length) (h0:0≤x) (hx:x < n):pL (t.set q ((t.getD q []).set a x)) n k:=by
 intro r hr
 rcases List.mem_or_eq_of_mem_set hr with hr|rfl
 ·exact h r hr
 ·have:=h _ (tH (d:=[]) hq)
  refine ⟨by rw [List.length_set];exact this.1,fun y hy=>?_⟩
  rcases List.mem_or_eq_of_mem_set hy with hy|rfl
  ·exact this.2 y hy
  ·exact ⟨h0,hx⟩
theorem pL.vd {t:List (List Int)} {n k:Nat} {S:Int} {fs:List Bool} (h:pL t n k) (h1:1≤k) (h6:k≤6) (hn:1≤n) (h512:n≤512) (hf:fs.length=n) (ht:t.length=n) (hs0:0≤S) (hs1:S < n):VD ⟨k,S,fs,t⟩ n k:=by
 refine ⟨rfl,h1,h6,hf,hn,h512,ht,hs0,hs1,fun q hq=>?_,fun q a hq ha=>?_,fun q a hq ha=>?_⟩
 ·have hq2:q < t.length:=by omega
  exact (h _ (tH hq2)).1
 ·have hq2:q < t.length:=by omega
  have h:=h (t.getD q []) (tH hq2)
  have ha2:a < (t.getD q []).length:=by omega
  exact (h.2 ((t.getD q []).getD a 0) (tH ha2)).1
 ·have hq2:q < t.length:=by omega
  have h:=h (t.getD q []) (tH hq2)
  have ha2:a < (t.getD q []).length:=by omega
  exact (h.2 ((t.getD q []).getD a 0) (tH ha2)).2
theorem fK {P:Program} {ops:Array Oper} {o:Oper} {a:Act} {w:World} {K:Act→World→Prop} {Q:Exit→Act→World→Prop} {R:Prop} (hgd:o.guard=none) (s x:Operand) (t:TypeId)
  (ho:o.op=.call { callee:=.builtin .append,args:=#[s,x],argTypes:=#[t,t] })
  {e:TypeId} {z:Value} {bytes:Nat} (E:ElemOk P t e z bytes) (base:Nat) (v:Value) (n:Nat) (xs:List Value) (hs:a.eval s=v) (hown:w.ownsRow base e 1 v n xs)
  (u:Value) (blk:Nat) (m:Nat × Nat) (hx:a.eval x=.slice (some ⟨blk,0,none⟩) 1 1) (hblk:w.heap[blk]?=some (.cells #[u] e m)) (h1:u.oneCell'=true) (h63:n+1≤maxLen) (hbytes:(n+1) * bytes≤140737488355328) (hbase:base≤w.heap.size)
  (h:∀ sa sc w',w'.ownsRow base e 1 (.slice sa (n+1) sc) (n+1) (xs ++ [u])→w.grownBy w' v.ownBlock→K (a.put o.dst (.slice sa (n+1) sc)) w') :
  if Region.wanted o (yielded ops a.tmps)=true then Oper.wp P o a w K Q else R:=by
 have hw:Region.wanted o (yielded ops a.tmps)=true:=by simp [Region.wanted,hgd]
 rw [if_pos hw]
 obtain ⟨i,hi,hz,hsz,hby⟩:=info_parts E.hi
 refine wp_append_own w s x t ho base e i z 1 bytes E.ht hi hz hsz hby E.hz (by decide) v n xs hs hown ⟨blk,0,none⟩ 1 1 [u] hx rfl ?_ ?_ h63 hbytes hbase ?_
 ·intro j u' hj
  match j,hj with
  | 0,hj=>simp at hj;subst hj;simpa [Addr.add] using zI hblk 0 (by simp)
 ·intro u' hu;simp at hu;subst hu;exact h1
 ·intro v' w' h1 h2 _
  obtain ⟨sa,sc,rfl⟩:=rB h1
  exact h sa sc w' h1 h2
def bO (B tb:Nat) (w:World) (letters most:Nat) (e:Ending) (w':World):Prop :=
 ∃ (v:Value) (m:DfaV) (n:Nat),e=.returned v∧qCD w w' v m∧VD m n letters∧n≤most∧wD B w' tb∧w.grownBy w' (some tb)
set_option maxRecDepth 100000 in
set_option maxHeartbeats 1000000 in
theorem qBM (B tb:Nat) (w:World) (letters most:Nat) (h1:1≤letters) (h6:letters≤6) (hm1:1≤most) (hm:most≤500) (hT:wD B w tb) :
  Calls Tryd.prog 42 #[.pointer (some ⟨tb,0,none⟩),.int .i64 (letters:Int),.int .i64 (most:Int)] w (bO B tb w letters most):=by
 have htb:=hT.lt
 have hBt:=hT.ge
 obtain ⟨wA,hWA⟩:∃ wA,wA=(w.alloc (.cells #[.int .i64 0,.int .i64 0,.slice none 0 0,.slice none 0 0] 28)).alloc (.cells #[.int .i64 letters,.int .i64 0,.slice none 0 0,.slice none 0 0] 28):=⟨_,rfl⟩
 obtain ⟨hb1,hb2,hgA,hzA⟩:=qQ w #[.int .i64 0,.int .i64 0,.slice none 0 0,.slice none 0 0] #[.int .i64 letters,.int .i64 0,.slice none 0 0,.slice none 0 0] 28
 rw [← hWA] at hb1 hb2 hgA hzA
 obtain ⟨P,hP⟩:∃ P,P=w.heap.size:=⟨_,rfl⟩
 have HPE:=Kh hP
 rw [← hP] at hb1 hb2 hzA htb
 have hTA:=hT.kept hgA (by simp)
 have HB1:=Kh hb1;have HB2:=Kh hb2;have HGA:=Kh hgA;have HWA:=Kh hWA;have HTA:=Kh hTA
 clear hb1 hb2 hgA hWA hTA hT
 go_enter Tryd.func42,Tryd.ntmps42
 go_upto_region 2 with fail
 rw [← HWA.out,← HPE.out]
 clear hP
 go_wp2_with fail
 refine (tN B tb _ _ (by omega) HTA.out).mono ?_
 rintro e w1 ⟨r,rfl,hr0,hr1,hT1,hg1⟩
 replace hr1:=hr1 (by omega)
 obtain ⟨n,rfl⟩:∃ n:Nat,r=(n:Int) - 1:=⟨(r+1).toNat,by omega⟩
 have hn1:1≤n:=by omega
 have hn2:n≤most:=by omega
 have hn0:(1:Int)+((n:Int) - 1)=n:=by omega
 have HT1:=Kh hT1;have HG1:=Kh hg1;have HN0:=Kh hn0
 clear hr0 hr1 hT1 hg1
 go_wp2_with fail
 refine (tN B tb _ _ (by omega) HT1.out).mono ?_
 rintro e w2 ⟨s,rfl,hs0,hs1,hT2,hg2⟩
 replace hs1:=hs1 (by omega)
 obtain ⟨s,rfl⟩:∃ s':Nat,s=s':=⟨s.toNat,by omega⟩
 have hg12:=zF HG1.out hg2
 have hbo:=zE HB2.out hg12 (by simp;omega)
 obtain ⟨c0,c1,c2,c3⟩:=zR hbo
 have f1:=frozen_of_row w2 (P+1) 1 _ _ hbo
 have HT2:=Kh hT2;have HG2:=Kh hg12
 clear hT2 hg2 hg12 HT1 HG1
 go_wp2
 obtain ⟨w3,hw3⟩:∃ w3,w3=w2.setCell ⟨P+1,1,none⟩ (.int .i64 (s:Int)):=⟨_,rfl⟩
 have hb3:w3.heap[P+1]?=some (.cells #[.int .i64 (letters:Int),.int .i64 (s:Int),.slice none 0 0,.slice none 0 0] 28 (0,0)):=by rw [hw3,heap_setCell_same w2 (P+1) 1 _ _ _ hbo];simp
 have hg3:w2.grownBy w3 (some (P+1)):=by rw [hw3];exact zH w2 ⟨P+1,1,none⟩ _
 have hb31:=zE (zE HB1.out HG2.out (by simp;omega)) hg3 (by simp)
 have hT3:=HT2.out.kept hg3 (fun k e=>by have:=Oj e;subst this;omega)
 have hgw:w.grownBy w3 (some tb):=zG (zF (zG (zW w (some tb)) HGA.out (by simp)) HG2.out) hg3 (fun x e=>by have:=Oj e;have:=HPE.out;omega)
 have hH3:Half (P+1) w3 (P+1) letters s [] [] [] none 0 none 0:=⟨hb3,World.ownsRow_nil _ _ _ _,World.ownsRow_nil _ _ _ _,OwnsT.nil⟩
 have H3:=Kh hH3;have HB3:=Kh hb31;have HT3:=Kh hT3;have HG3:=Kh hgw
 rw [← hw3]
 clear hw3 hb3 hg3 hb31 hT3 hgw hH3 c0 c1 c2 c3 f1 hbo HT2 HG2
 go_loopg [9,10,11] n (fun gh i v10 v11 wr=>∃ (q:Nat) (fs:List Bool) (t:List (List Int)) (hs:List Value) (sf:Option Addr) (cf:Nat) (sn:Option Addr) (cn:Nat),gh+q=n∧i=.int .i64 q∧fs.length=q∧t.length=q∧pL t n letters∧Half (P+1) wr (P+1) letters s fs t hs sf cf sn cn∧wD B wr tb∧wr.heap[P]?=some (.cells #[.int .i64 0,.int .i64 0,.slice none 0 0,.slice none 0 0] 28 (0,0))∧w.grownBy wr (some tb))
 case atStart=>exact ⟨0,[],[],[],none,0,none,0,by omega,rfl,rfl,rfl,(fun r hr=>by simp at hr),H3.out,HT3.out,HB3.out,HG3.out⟩
 case round =>
  obtain ⟨q,fs,t,hs,sf,cf,sn,cn,hg,rfl,rfl,htl,hri,hH,hTr,hb1r,hgr⟩:=hrel
  have HG:=Kh hg;have HH:=Kh hH;have HTR:=Kh hTr;have HB1R:=Kh hb1r;have HGR:=Kh hgr;have HRI:=Kh hri
  clear hg hH hTr hb1r hgr hri H3 HB3 HT3 HG3
  by_cases hq:fs.length < n
  ·have hq':(fs.length:Int) < n:=by omega
   obtain ⟨w5,hw5⟩:∃ w5,w5=wr.drew:=⟨_,rfl⟩
   have hg5:wr.grownBy w5 none:=by rw [hw5];exact zT wr none
   have HW5:=Kh hw5
   have HH5:=Kh (HH.out.grow hg5);have HT5:=Kh (HTR.out.kept hg5 (by simp));have HG5:=Kh (zG HGR.out hg5 (by simp));have HB5:=Kh (zE HB1R.out hg5 (by simp))
   obtain ⟨d0,d1,d2,d3⟩:=zR HH5.out.box
   have C2:=Kh d2
   clear hw5 hg5 d0 d1 d2 d3 HH HTR HGR HB1R
   go_upto_region 7 with fail
   refine wp_region_noPanic ?_
   refine yY (G:=vV 8 (fun _=>True) (fun W=>W.cell? ⟨P+1,2,none⟩=some (.slice sf fs.length cf))) (by kernel_rfl) ?_
   rw [← HW5.out]
   refine takeC (i:=0) (v:=?_) rfl rfl (Or.inl ⟨by rfl,?_⟩) ⟨trivial,fun _=>C2.out⟩ ?_
   rotate_left
   ·(intro wz hz;(try dsimp only at hz);go_simp;(try with_reducible rfl))
   try simp only [Act.put,sPa,sPb,sPc]
   refine takeD (i:=1) (v:=?_) rfl rfl (Or.inl ⟨by rfl,?_⟩) ⟨trivial,fun _=>C2.out⟩ ?_
   rotate_left
   ·(rintro wz ⟨-,hz⟩;(try dsimp only at hz);go_simp;(try with_reducible rfl))
   try simp only [Act.put,sPa,sPb,sPc]
   refine takeC (i:=2) (v:=?_) rfl rfl (Or.inl ⟨by rfl,?_⟩) ⟨trivial,fun _=>C2.out⟩ ?_
   rotate_left
   ·(intro wz hz;(try dsimp only at hz);go_simp;(try with_reducible rfl))
   try simp only [Act.put,sPa,sPb,sPc]
   refine oneG (i:=3) (by kernel_rfl) rfl (fun K hK=>?_)
   go_simp
   go_at_call 43
   refine (tN B tb _ _ (by omega) HT5.out).mono ?_
   rintro e w6 ⟨b,rfl,hb0,hb1,hT6,hg6⟩
   have hH6:=HH5.out.tape HT5.out hg6
   obtain ⟨d0,d1,d2,d3⟩:=zR hH6.box
   have C2:=Kh d2
   refine hK.out _ _ ⟨trivial,fun _=>C2.out⟩ ?_
   clear hK K d0 d1 d2 d3
   try simp only [Act.put,sPa,sPb,sPc]
   refine takeC (i:=4) (v:=?_) rfl rfl (Or.inl ⟨by rfl,?_⟩) ⟨trivial,fun _=>C2.out⟩ ?_
   rotate_left
   ·(intro wz hz;(try dsimp only at hz);go_simp;(try with_reducible rfl))
   try simp only [Act.put,sPa,sPb,sPc]
   refine oneG (i:=5) (by kernel_rfl) rfl (fun K hK=>?_)
   go_simp
   have hH7:=hH6.grow (Ga w6 (.cells #[.bool (decide (b=1))] 4) none)
   have hgn:=heap_alloc_new w6 (.cells #[.bool (decide (b=1))] 4)
   obtain ⟨d0,d1,d2,d3⟩:=zR hH7.box
   refine hK.out _ _ ⟨trivial,fun _=>d2⟩ ?_
   clear hK K d0 d1 d2 d3
   try simp only [Act.put,sPa,sPb,sPc]
   have hz7:P+2≤w6.heap.size:=by have:=zQ hH6.box;omega
   refine oneG (i:=6) (by kernel_rfl) rfl (fun K hK=>?_)
   refine fK rfl (.tmp 28) (.tmp 32) 25 rfl wJ (P+1) _ _ _ rfl hH7.ownF _ _ _ rfl hgn rfl ?g1 ?g2 ?g3 ?_
   case g1=>unfold maxLen;omega
   case g2=>omega
   case g3=>rw [zO];omega
   intro sa' sc' w8 hown8 hg8
   have hbx:=zE hH7.box hg8 (fun e=>zS hH7.ownF hH7.box (by decide) e)
   obtain ⟨d0,d1,d2,d3⟩:=zR hbx
   have f2:=zD hbx 2
   refine hK.out _ _ ⟨trivial,fun _=>d2⟩ ?_
   clear hK K
   try simp only [Act.put,sPa,sPb,sPc]
   have C2:=Kh d2
   refine takeC (i:=7) (v:=?_) rfl rfl (Or.inl ⟨by rfl,?_⟩) ⟨trivial,fun _=>C2.out⟩ ?_
   rotate_left
   ·(intro wz hz;(try dsimp only at hz);go_simp;(try with_reducible rfl))
   try simp only [Act.put,sPa,sPb,sPc]
   refine oneG (i:=8) (by kernel_rfl) rfl (fun K hK=>?_)
   go_simp
   refine hK.out _ _ ⟨trivial,fun h=>by simp at h⟩ ?_
   clear hK K d0 d1 d2 d3 f2 hbx
   try simp only [Act.put,sPa,sPb,sPc]
   refine nW (by kernel_rfl) ?_ _
   refine NoPanic.normal ?_
   obtain ⟨hF,hgF⟩:=hH7.pushF hown8 hg8 rfl
   have hT9:=((hT6.kept (Ga w6 (.cells #[.bool (decide (b=1))] 4) none) (by simp)).kept hg8 (fun k e=>by have:=(hH7.ownF.lt k e).1;omega)).kept (zH w8 ⟨P+1,2,none⟩ (.slice sa' (fs.length+1) sc')) (fun k e=>by have e:P+1=k:=Oj e;omega)
   have hb9:=zE (zE (zE (zE HB5.out hg6 (by simp;omega)) (Ga w6 (.cells #[.bool (decide (b=1))] 4) none) (by simp)) hg8 (fun e=>by have:=(hH7.ownF.lt _ e).1;omega)) (zH w8 ⟨P+1,2,none⟩ (.slice sa' (fs.length+1) sc')) (by simp)
   have hg9:w.grownBy (w8.setCell ⟨P+1,2,none⟩ (.slice sa' (fs.length+1) sc')) (some tb):=zG (zG (zG (zF HG5.out hg6) (Ga w6 (.cells #[.bool (decide (b=1))] 4) none) (by simp)) hg8 (fun k e=>by have:=(hH7.ownF.lt k e).1;have:=HPE.out;omega)) (zH w8 ⟨P+1,2,none⟩ (.slice sa' (fs.length+1) sc')) (fun k e=>by have e:P+1=k:=Oj e;have:=HPE.out;omega)
   obtain ⟨w9,hw9⟩:∃ w9,w9=w8.setCell ⟨P+1,2,none⟩ (.slice sa' (fs.length+1) sc'):=⟨_,rfl⟩
   rw [← hw9] at hF hT9 hb9 hg9 ⊢
   have HF:=Kh hF;have HT9:=Kh hT9;have HB9:=Kh hb9;have HG9:=Kh hg9
   clear hw9 hgF hF hT9 hb9 hg9 hown8 hg8 hgn hH7 hH6 hT6 hg6 C2 HH5 HT5 HG5 HB5 HW5
   go_wp2
   go_loopg [10,11] letters (fun gh ov i wx=>∃ (a:Nat) (row:List Int) (sr:Option Addr) (cr:Nat),gh+a=letters∧i=.int .i64 a∧row.length=a∧ov=.slice sr row.length cr∧(∀ x∈row,0≤x∧x < n)∧wx.ownsRow w9.heap.size 3 1 (.slice sr row.length cr) row.length (ints row)∧wD B wx tb∧w9.grownBy wx (some tb))
   case atStart=>exact ⟨0,[],none,0,by omega,rfl,rfl,rfl,(fun x hx=>by simp at hx),World.ownsRow_nil _ _ _ _,HT9.out,zW _ _⟩
   case round =>
    obtain ⟨a,row,sr,cr,hg,rfl,rfl,rfl,hrl,hown,hTx,hgx⟩:=hrel
    have HGA2:=Kh hg;have HOWR:=Kh hown;have HTX:=Kh hTx;have HGX:=Kh hgx
    clear hg hown hTx hgx
    by_cases ha:row.length < letters
    ·have ha':(row.length:Int) < letters:=by omega
     have htx:=HTX.out.lt
     go_wp2_with fail
     refine (tN B tb _ _ (by omega) HTX.out).mono ?_
     rintro e wy ⟨x,rfl,hx0,hx1,hTy,hgy⟩
     replace hx1:=hx1 (by omega)
     have hzt:tb < w9.heap.size:=HT9.out.lt
     have hownY:=yF HOWR.out hgy (by simpa using hzt)
     have hzy:=(zF HGX.out hgy).size
     have HOY:=Kh hownY;have HTY:=Kh hTy;have HGY:=Kh (zF HGX.out hgy)
     clear hownY hTy hgy
     go_wp2_with (first|(at_builtin;refine app1 rfl _ _ _ rfl yC w9.heap.size _ row.length (ints row) rfl HOY.out _ rfl rfl ?c1 ?c2 ?c3 ?_)|fail)
     case c1=>unfold maxLen;omega
     case c2=>omega
     case c3=>exact hzy
     intro sr' cr' w10 hown10 hg10 hlt10
     have HO10:=Kh hown10
     have HT10:=Kh (HTY.out.kept hg10 (fun k e=>by have:=(HOY.out.lt k e).1;omega))
     have HG10:=Kh (zG HGY.out hg10 (fun k e=>(HOY.out.lt k e).1))
     clear hown10 hg10
     go_wp2
     go_roundg (letters - (row.length+1))
     case measure=>have:=HGA2.out;omega
     case rel =>
      refine ⟨row.length+1,row ++ [x],sr',cr',by omega,by go_num,by simp,by simp,?_,?_,HT10.out,HG10.out⟩
      ·intro y hy
       rcases List.mem_append.1 hy with hy|hy
       ·exact hrl y hy
       ·rw [List.mem_singleton] at hy;subst hy;exact ⟨hx0,hx1⟩
      ·rw [show ints (row ++ [x])=ints row ++ [.int .i64 x] by simp [ints],List.length_append,List.length_singleton]
       exact HO10.out
    ·have hrn:row.length=letters:=by have:=HGA2.out;omega
     have hH:=HF.out.tape HT9.out HGX.out
     have hzp:P+1≤w9.heap.size:=Nat.le_of_lt (zQ HF.out.box)
     have hrow:=yJ HOWR.out hzp
     have hdis:∀ i (hi:i < hs.length),∀ k,hs[i].ownBlock=some k→(Value.slice sr row.length cr).ownBlock≠some k:=fun i hi k hk e=>by
      have h1:=(HF.out.rows.lt hi hk).2
      have h2:=(HOWR.out.lt k e).1
      omega
     have HDIS:=Kh hdis
     obtain ⟨d0,d1,d2,d3⟩:=zR hH.box
     have hzx:=zQ hH.box
     have hlt9:=HT9.out.lt
     have HHX:=Kh hH;have HRW:=Kh hrow;have HRN:=Kh hrn
     have HGW:=Kh (zF HG9.out HGX.out);have HBX:=Kh (zE HB9.out HGX.out (by simp;omega))
     clear hH hrow hrn hdis d0 d1 d2 HOWR HGX HF HT9 HG9 HB9
     have HON:=Kh HHX.out.ownN
     have HTL:=Kh htl
     clear htl
     go_wp2_with (first|(at_builtin;refine app1 rfl _ _ _ rfl vO (P+1) _ t.length hs rfl HON.out _ rfl rfl ?c1 ?c2 ?c3 ?_)|fail)
     case c1=>have:=HTL.out;unfold maxLen;omega
     case c2=>have:=HTL.out;omega
     case c3=>omega
     intro sn' cn' w11 hown11 hg11 hlt11
     have hbx:=zE HHX.out.box hg11 (fun e=>zS HHX.out.ownN HHX.out.box (by decide) e)
     obtain ⟨d0,d1,d2,d3⟩:=zR hbx
     have f2:=zD hbx 3
     obtain ⟨hN,hgN⟩:=HHX.out.pushN hown11 hg11 HRW.out HDIS.out rfl
     have hTN:=(HTX.out.kept hg11 (fun k e=>by have:=(HHX.out.ownN.lt k e).1;omega)).kept (zH w11 ⟨P+1,3,none⟩ (.slice sn' (t.length+1) cn')) (fun k e=>by have e:P+1=k:=Oj e;omega)
     have hbN:=zE (zE HBX.out hg11 (fun e=>by have:=(HHX.out.ownN.lt _ e).1;omega)) (zH w11 ⟨P+1,3,none⟩ (.slice sn' (t.length+1) cn')) (by simp)
     have hgN2:w.grownBy (w11.setCell ⟨P+1,3,none⟩ (.slice sn' (t.length+1) cn')) (some tb):=zG (zG HGW.out hg11 (fun k e=>by have:=(HHX.out.ownN.lt k e).1;have:=HPE.out;omega)) (zH w11 ⟨P+1,3,none⟩ (.slice sn' (t.length+1) cn')) (fun k e=>by have e:P+1=k:=Oj e;have:=HPE.out;omega)
     have HGK:=Kh hN;have HTN2:=Kh hTN;have HBN2:=Kh hbN;have HGN2:=Kh hgN2
     clear hgN hbx hN hTN hbN hgN2 hown11 hg11
     go_wp2
     go_roundg (n - (fs.length+1))
     case measure=>have:=HG.out;omega
     case rel =>
      refine ⟨fs.length+1,fs ++ [decide (b=1)],t ++ [row],_,sa',sc',sn',cn',by omega,by go_num,by simp,by simp [HTL.out],?_,HGK.out,HTN2.out,HBN2.out,HGN2.out⟩
      intro r hr
      rcases List.mem_append.1 hr with hr|hr
      ·exact HRI.out r hr
      ·rw [List.mem_singleton] at hr;subst hr;exact ⟨HRN.out,hrl⟩
  ·have hfn:fs.length=n:=by have:=HG.out;omega
   have hB:=HH.out
   have HFN:=Kh hfn;have HBU:=Kh hB
   obtain ⟨d0,d1,d2,d3⟩:=zR HH.out.box
   obtain ⟨e0,e1,e2,e3⟩:=zR HB1R.out
   have f0:=zD HB1R.out 0;have f1:=zD HB1R.out 1;have f2:=zD HB1R.out 2;have f3:=zD HB1R.out 3
   have HTL:=Kh htl
   clear hB hfn htl
   go_wp2
   refine bodyPost_ret (v:=.agg #[.int .i64 letters,.int .i64 s,.slice sf fs.length cf,.slice sn t.length cn]) (by simp [results,Tryd.results42,go_sem,e0,e1,e2,e3]) rfl ?_
   obtain ⟨hsR,hgR⟩:=pX HB1R.out (.int .i64 letters) (.int .i64 s) (.slice sf fs.length cf) (.slice sn t.length cn)
   have htb2:=HTR.out.lt
   have hfn:=HFN.out;have htl:=HTL.out
   refine ⟨_,⟨letters,s,fs,t⟩,n,rfl,⟨P+1,hs,sf,cf,sn,cn,rfl,by have:=HPE.out;omega,(HBU.out.base (by have:=HPE.out;omega)).far hgR HB1R.out (by omega)⟩,HRI.out.vd h1 h6 hn1 (by omega) hfn (htl.trans hfn) hs0 hs1,hn2,HTR.out.kept hgR (fun k e=>by have e:P=k:=Oj e;omega),zG HGR.out hgR (fun k e=>by have e:P=k:=Oj e;have:=HPE.out;omega)⟩
def wAt (letters most:Nat):Nat→List (List Nat)
 | 0=>[[]]
 | i+1=>if i < (wAt letters most i).length∧((wAt letters most i).getD i []).length < most then wAt letters most i ++ (List.range letters).map (fun c=>(wAt letters most i).getD i [] ++ [c]) else wAt letters most i
def wIn (letters most i a:Nat):List (List Nat):=wAt letters most i ++ (List.range a).map (fun c=>(wAt letters most i).getD i [] ++ [c])
def sQ (letters most:Nat):List (List Nat):=wAt letters most 7
def tX (l:List (List Nat)):List Value:=l.map fun u=>.string (strOfNums (lets u))
theorem strsL_length (l:List (List Nat)):(tX l).length=l.length:=by simp [tX]
theorem small2 {P:Nat→Nat→Prop} {x y:Nat} (h1:1≤x) (h2:x≤2) (h3:1≤y) (h4:y≤2) (h:P 1 1∧P 1 2∧P 2 1∧P 2 2):P x y:=by
 rcases (by omega:x=1∨x=2) with rfl|rfl <;> rcases (by omega:y=1∨y=2) with rfl|rfl
 ·exact h.1
 ·exact h.2.1
 ·exact h.2.2.1
 ·exact h.2.2.2
theorem w_facts {letters most:Nat} (h1:1≤letters) (h2:letters≤2) (h3:1≤most) (h4:most≤2):∀ i,i≤7→(i < (wAt letters most i).length→i < 7)∧(¬ i < (wAt letters most i).length→wAt letters most i=sQ letters most)∧(wAt letters most i).length≤7∧(∀ u∈wAt letters most i,u.length≤2) :=
 small2 (P:=fun letters most=>∀ i,i≤7→(i < (wAt letters most i).length→i < 7)∧(¬ i < (wAt letters most i).length→wAt letters most i=sQ letters most)∧(wAt letters most i).length≤7∧(∀ u∈wAt letters most i,u.length≤2)) h1 h2 h3 h4
  ⟨by decide +kernel,by decide +kernel,by decide +kernel,by decide +kernel⟩
theorem cG (letters most i:Nat):wIn letters most i 0=wAt letters most i:=by simp [wIn]
theorem wIn_succ (letters most i a:Nat):wIn letters most i (a+1)=wIn letters most i a ++ [(wAt letters most i).getD i [] ++ [a]]:=by simp [wIn,List.range_succ]
theorem dG (letters most i a:Nat):(wIn letters most i a).length=(wAt letters most i).length+a:=by simp [wIn]
theorem wAt_step {letters most i:Nat} (hi:i < (wAt letters most i).length) (h:((wAt letters most i).getD i []).length < most):wAt letters most (i+1)=wIn letters most i letters:=by rw [wAt,if_pos ⟨hi,h⟩];rfl
theorem wAt_stay {letters most i:Nat} (h:¬ ((wAt letters most i).getD i []).length < most):wAt letters most (i+1)=wAt letters most i:=by rw [wAt,if_neg (fun h'=>h h'.2)]
theorem wIn_get {letters most i a:Nat} (h:i < (wAt letters most i).length):(wIn letters most i a).getD i []=(wAt letters most i).getD i []:=by
 simp [wIn,List.getD_eq_getElem?_getD,List.getElem?_append_left h]
theorem Arr.strL {w:World} {g:Nat} {e:TypeId} {l:List (List Nat)} (h:Arr w g e (tX l)) (i:Nat) (hi:i < l.length):w.cell? ⟨g,i,none⟩=some (.string (strOfNums (lets (l.getD i [])))):=by
 rw [h.cell i (by rw [strsL_length];exact hi)]
 simp [tX,List.getD_eq_getElem?_getD,hi]
theorem gS {W:World} {e base g:Nat} {xs:List Value} {k:Nat} (h:W.heap[g]?=some (.cells xs.toArray e (0,0))) (hb:base≤g) (hk:xs.length=k) (hm:k≤maxLen):W.ownsRow base e 1 (.slice (some ⟨g,0,none⟩) k k) k xs :=
 ⟨by omega,.inr ⟨g,k,xs.toArray,rfl,hb,h,Nat.le_refl _,hm,by simp [hk],by simp [← hk]⟩⟩
set_option maxRecDepth 100000 in
set_option maxHeartbeats 1000000 in
theorem words_any (w:World) (letters most:Nat) (h1:1≤letters) (h2:letters≤2) (h3:1≤most) (h4:most≤2) :
  Calls Tryd.prog 111 #[.int .i64 (letters:Int),.int .i64 (most:Int)] w fun e w' =>
   ∃ sa sc,e=.returned (.slice sa (sQ letters most).length sc)∧w'.ownsRow w.heap.size 9 1 (.slice sa (sQ letters most).length sc) (sQ letters most).length (tX (sQ letters most))∧w.grownBy w' none:=by
 have hF:=w_facts h1 h2 h3 h4
 have HF:=Kh hF
 clear hF
 obtain ⟨P,hP⟩:∃ P,P=w.heap.size:=⟨_,rfl⟩
 have HPE:=Kh hP
 go_enter Tryd.func111,Tryd.ntmps111
 go_upto_region 2 with fail
 have hb:=heap_alloc_new w (.cells #[.string ⟨#[]⟩] 9)
 have hg:=Ga w (.cells #[.string ⟨#[]⟩] 9) none
 have ho:(w.alloc (.cells #[.string ⟨#[]⟩] 9)).ownsRow w.heap.size 9 1 (.slice (some ⟨w.heap.size,0,none⟩) 1 1) 1 (tX [[]]):=gS hb (Nat.le_refl _) rfl (by unfold maxLen;omega)
 have hsz:=zO w (.cells #[.string ⟨#[]⟩] 9)
 rw [← hP] at ho hb hsz ⊢
 have HO:=Kh ho;have HG:=Kh hg;have HW1:=Kh (cG letters most 0)
 clear ho hb hg hsz hP
 obtain ⟨w1,hw1⟩:∃ w1,w1=w.alloc (.cells #[.string ⟨#[]⟩] 9):=⟨_,rfl⟩
 rw [← hw1] at HO HG ⊢
 clear hw1
 go_wp2
 go_loopg [5,6,7] 7 (fun gh lv i av wr=>∃ (q:Nat) (sa:Option Addr) (sc:Nat),gh+q=7∧i=.int .i64 q∧lv=.slice sa (wAt letters most q).length sc∧wr.ownsRow P 9 1 (.slice sa (wAt letters most q).length sc) (wAt letters most q).length (tX (wAt letters most q))∧w.grownBy wr none)
 case atStart=>exact ⟨0,some ⟨P,0,none⟩,1,rfl,rfl,rfl,HO.out,HG.out⟩
 case round =>
  obtain ⟨q,sa,sc,hg,rfl,rfl,hown,hgr⟩:=hrel
  obtain ⟨f1,f2,f3,f4⟩:=HF.out q (by omega)
  obtain ⟨m,hm⟩:∃ m,m=(wAt letters most q).length:=⟨_,rfl⟩
  have HM:=Kh hm
  rw [← hm] at hown f1 f2 f3 ⊢
  have HG2:=Kh hg;have HOW:=Kh hown;have HGR:=Kh hgr
  clear hg hown hgr hm HO HG HW1
  by_cases hq:q < m
  ·have hq':(q:Int) < m:=by omega
   have hq7:=f1 hq
   have hu2:((wAt letters most q).getD q []).length≤2:=f4 _ (tH (by have:=HM.out;omega))
   obtain ⟨U,hU⟩:∃ U,U=(wAt letters most q).getD q []:=⟨_,rfl⟩
   rw [← hU] at hu2
   have HU:=Kh hU
   clear f1 f2 f4 hU
   obtain ⟨X,hX⟩:∃ X,X=strOfNums (lets U):=⟨_,rfl⟩
   have hxl:X.size=U.length:=by rw [hX,strOfNums_size];simp [lets]
   have HX:=Kh hX;have HXL:=Kh hxl
   obtain ⟨wo,hwo⟩:∃ wo,wo=wr:=⟨_,rfl⟩
   rw [← hwo] at HOW HGR ⊢
   clear hwo wr
   go_wp2
   go_loopg [5,7] letters (fun gh lv av wr=>∃ (a:Nat) (sb:Option Addr) (sd:Nat),gh+a=letters∧av=.int .i64 a∧lv=.slice sb (m+a) sd∧wr.ownsRow P 9 1 (.slice sb (m+a) sd) (m+a) (tX (wIn letters most q a))∧w.grownBy wr none∧(most≤U.length→a=0))
   case atStart=>exact ⟨0,sa,sc,rfl,rfl,rfl,by rw [cG];exact HOW.out,HGR.out,fun _=>rfl⟩
   case round =>
    obtain ⟨a,sb,sd,hg,rfl,rfl,hown,hgr,hz⟩:=hrel
    obtain ⟨kb,rfl,hc1,hc2,harr⟩:=yK hown (by omega)
    have hcell:=harr.strL q (by rw [dG];have:=HM.out;omega)
    rw [wIn_get (by have:=HM.out;omega),← HU.out,← HX.out] at hcell
    have hmd:(q:Int) < (m:Int)+(a:Int):=by omega
    have hmd2:q < m+a:=by omega
    have HG3:=Kh hg;have HOW3:=Kh hown;have HGR3:=Kh hgr;have HZ:=Kh hz
    have hc2':sd≤9223372036854775807:=by unfold maxLen at hc2;omega
    clear hg hown hgr hz harr hc2 hX hxl
    by_cases ha:a < letters
    ·have ha':(a:Int) < letters:=by omega
     by_cases hu:X.size < most
     ·have hu':(X.size:Int) < most:=by omega
      have h97:IntKind.i64.wrap (97+(a:Int))=97+(a:Int):=IntWalk.i64_in _ (by omega)
      have hby:IntKind.u8.wrap (97+(a:Int))=97+(a:Int):=IntWalk.u8_in _ (by omega)
      obtain ⟨Y,hY⟩:∃ Y,Y=strOfNums [97+(a:Int)]:=⟨_,rfl⟩
      have hcv:∀ (W:World) (g:Nat),W.cell? ⟨g,0,none⟩=some (.int .u8 (97+(a:Int)))→(convert 89 9 (.slice (some ⟨g,0,none⟩) 1 1)).run Tryd.prog W=.ok (.string Y) W:=fun W g h=>by rw [hY];exact mL 89 5 Tryd.underlying89 Tryd.underlying5 9 Tryd.underlying9 h
      have hcc:∀ W:World,(Op.stringOp .add X Y).run Tryd.prog W=.ok (.string (X ++ Y)) W:=fun W=>run_string_add_sum W X Y (by
       rw [hY,strOfNums_size];simp;omega)
      have HXY:Hid (X ++ Y=strOfNums (lets (U ++ [a]))):=Kh (by rw [HX.out,hY,cK];simp [lets])
      clear hY
      obtain ⟨w5,hw5⟩:∃ w5,w5=wr.drew:=⟨_,rfl⟩
      have hg5:wr.grownBy w5 none:=by rw [hw5];exact zT wr none
      have HW5:=Kh hw5
      have HO5:=Kh (yF HOW3.out hg5 (by simp));have HG5:=Kh (zG HGR3.out hg5 (by simp))
      have C:=Kh (yD hcell hg5)
      clear hw5 hg5 HOW3 HGR3
      go_upto_region 8 with fail
      clear hcell
      refine wp_region_noPanic ?_
      refine yY (G:=vV 10 (fun _=>True) (fun W=>W.cell? ⟨kb,q,none⟩=some (.string X))) (by kernel_rfl) ?_
      rw [← HW5.out]
      refine takeC (i:=0) (v:=?_) rfl rfl (Or.inl ⟨by rfl,?_⟩) ⟨trivial,fun _=>C.out⟩ ?_
      rotate_left
      ·(intro wz hz;(try dsimp only at hz);go_simp;(try with_reducible rfl))
      try simp only [Act.put,sPa,sPb,sPc]
      refine takeC (i:=1) (v:=?_) rfl rfl (Or.inl ⟨by rfl,?_⟩) ⟨trivial,fun _=>C.out⟩ ?_
      rotate_left
      ·(intro wz hz;(try dsimp only at hz);go_simp;(try with_reducible rfl))
      try simp only [Act.put,sPa,sPb,sPc]
      refine takeC (i:=2) (v:=?_) rfl rfl (Or.inl ⟨by rfl,?_⟩) ⟨trivial,fun _=>C.out⟩ ?_
      rotate_left
      ·(intro wz hz;(try dsimp only at hz);go_simp;(try with_reducible rfl))
      try simp only [Act.put,sPa,sPb,sPc]
      refine takeC (i:=3) (v:=?_) rfl rfl (Or.inl ⟨by rfl,?_⟩) ⟨trivial,fun _=>C.out⟩ ?_
      rotate_left
      ·(intro wz hz;(try dsimp only at hz);go_simp;(try with_reducible rfl))
      try simp only [Act.put,sPa,sPb,sPc]
      refine takeD (i:=4) (v:=?_) rfl rfl (Or.inl ⟨by rfl,?_⟩) ⟨trivial,fun _=>C.out⟩ ?_
      rotate_left
      ·(rintro wz ⟨-,hz⟩;(try dsimp only at hz);go_simp;(try with_reducible rfl))
      try simp only [Act.put,sPa,sPb,sPc]
      refine takeC (i:=5) (v:=?_) rfl rfl (Or.inl ⟨by rfl,?_⟩) ⟨trivial,fun _=>C.out⟩ ?_
      rotate_left
      ·(intro wz hz;(try dsimp only at hz);go_simp;(try with_reducible rfl))
      try simp only [Act.put,sPa,sPb,sPc]
      refine takeC (i:=6) (v:=?_) rfl rfl (Or.inl ⟨by rfl,?_⟩) ⟨trivial,fun _=>C.out⟩ ?_
      rotate_left
      ·(intro wz hz;(try dsimp only at hz);go_simp;(try with_reducible rfl))
      try simp only [Act.put,sPa,sPb,sPc]
      refine takeC (i:=7) (v:=?_) rfl rfl (Or.inl ⟨by rfl,?_⟩) ⟨trivial,fun _=>C.out⟩ ?_
      rotate_left
      ·(intro wz hz;(try dsimp only at hz);go_simp;(try with_reducible rfl))
      try simp only [Act.put,sPa,sPb,sPc]
      refine oneG (i:=8) (by kernel_rfl) rfl (fun K hK=>?_)
      go_simp
      have hgn:=heap_alloc_new w5 (.cells #[.int .u8 (97+(a:Int))] 5)
      have hg6:=Ga w5 (.cells #[.int .u8 (97+(a:Int))] 5) none
      obtain ⟨g6,hg6e⟩:∃ g6,g6=w5.heap.size:=⟨_,rfl⟩
      obtain ⟨w6,hw6⟩:∃ w6,w6=w5.alloc (.cells #[.int .u8 (97+(a:Int))] 5):=⟨_,rfl⟩
      rw [← hg6e] at hgn ⊢
      rw [← hw6] at hgn hg6 ⊢
      have hb6:=zI hgn 0 (by simp)
      simp only [List.getElem_toArray,List.getElem_cons_zero] at hb6
      have HO6:=Kh (yF HO5.out hg6 (by simp));have HG6:=Kh (zG HG5.out hg6 (by simp))
      have C6:=Kh (yD C.out hg6)
      refine hK.out _ _ ⟨trivial,fun _=>C6.out⟩ ?_
      clear hK K hgn hg6 hg6e hw6 HO5 HG5 C
      try simp only [Act.put,sPa,sPb,sPc]
      refine oneG (i:=9) (by kernel_rfl) rfl (fun K hK=>?_)
      go_simp
      refine hK.out _ _ ⟨trivial,fun _=>C6.out⟩ ?_
      clear hK K
      try simp only [Act.put,sPa,sPb,sPc]
      refine oneG (i:=10) (by kernel_rfl) rfl (fun K hK=>?_)
      go_simp
      refine hK.out _ _ ⟨trivial,fun h=>by simp at h⟩ ?_
      clear hK K
      try simp only [Act.put,sPa,sPb,sPc]
      refine oneG (i:=11) (by kernel_rfl) rfl (fun K hK=>?_)
      go_simp
      have hgn:=heap_alloc_new w6 (.cells #[.string (X ++ Y)] 9)
      have hg7:=Ga w6 (.cells #[.string (X ++ Y)] 9) none
      have ho7:=yF HO6.out hg7 (by simp)
      refine hK.out _ _ ⟨trivial,fun h=>by simp at h⟩ ?_
      clear hK K
      try simp only [Act.put,sPa,sPb,sPc]
      have hsz7:P≤w6.heap.size:=by have:=HG6.out.size;have:=HPE.out;omega
      refine oneG (i:=12) (by kernel_rfl) rfl (fun K hK=>?_)
      refine fK rfl (.tmp 29) (.tmp 40) 31 rfl pH P _ _ _ rfl ho7 _ _ _ rfl hgn rfl ?g1 ?g2 ?g3 ?_
      case g1=>unfold maxLen;omega
      case g2=>omega
      case g3=>rw [zO];omega
      intro sa' sc' w8 hown8 hg8
      refine hK.out _ _ ⟨trivial,fun h=>by simp at h⟩ ?_
      clear hK K
      try simp only [Act.put,sPa,sPb,sPc]
      refine oneG (i:=13) (by kernel_rfl) rfl (fun K hK=>?_)
      go_simp
      refine hK.out _ _ ⟨trivial,fun h=>by simp at h⟩ ?_
      clear hK K
      try simp only [Act.put,sPa,sPb,sPc]
      refine nW (by kernel_rfl) ?_ _
      refine NoPanic.normal ?_
      have HO8:=Kh hown8
      have HG8:=Kh (zG (zG HG6.out hg7 (by simp)) hg8 (fun k e=>by have:=(ho7.lt k e).1;have:=HPE.out;omega))
      clear hown8 hg8 hg7 ho7 hgn
      go_wp2
      go_roundg (letters - (a+1))
      case measure=>have:=HG3.out;omega
      case rel =>
       refine ⟨a+1,sa',sc',by omega,by go_num,by rw [Nat.add_assoc],?_,HG8.out,by have:=HXL.out;omega⟩
       rw [wIn_succ,← HU.out,show tX (wIn letters most q a ++ [U ++ [a]])=tX (wIn letters most q a) ++ [.string (X ++ Y)] by rw [HXY.out];simp [tX],← Nat.add_assoc]
       exact HO8.out
     ·have hu':¬ (X.size:Int) < most:=by omega
      have ha0:a=0:=HZ.out (by have:=HXL.out;omega)
      subst ha0
      have hst:=wAt_stay (letters:=letters) (most:=most) (i:=q) (by rw [← HU.out];have:=HXL.out;omega)
      have HST:=Kh hst
      clear hst
      go_wp2
      go_roundg (7 - (q+1))
      case measure=>have:=HG2.out;omega
      case rel =>
       refine ⟨q+1,some ⟨kb,0,none⟩,sd,by omega,by go_num,?_,?_,HGR3.out⟩
       ·rw [HST.out,← HM.out]
       ·have:=HOW3.out
        rw [cG] at this
        rw [HST.out,← HM.out];exact this
    ·have hal:a=letters:=by have:=HG3.out;omega
     subst hal
     have hlt:U.length < most:=by
      rcases Nat.lt_or_ge U.length most with h|h
      ·exact h
      ·have:=HZ.out h;omega
     have HST:=Kh (wAt_step (letters:=a) (most:=most) (i:=q) (by have:=HM.out;omega) (by rw [← HU.out];exact hlt))
     go_wp2
     go_roundg (7 - (q+1))
     case measure=>have:=HG2.out;omega
     case rel =>
      have hl2:(wAt a most (q+1)).length=m+a:=by rw [HST.out,dG,← HM.out]
      refine ⟨q+1,some ⟨kb,0,none⟩,sd,by omega,by go_num,by rw [hl2],?_,HGR3.out⟩
      rw [hl2,HST.out];exact HOW3.out
  ·have hq':¬ (q:Int) < m:=by omega
   have HF2:=Kh (f2 hq)
   clear f1 f2 f3 f4
   go_wp2
   go_ret
   refine ⟨sa,sc,?_,?_,HGR.out⟩
   ·rw [← HF2.out,← HM.out];rfl
   ·rw [← HF2.out,← HM.out,← HPE.out];exact HOW.out
end Go.Proofs.YtdjhoadoiknaoaaDoor
