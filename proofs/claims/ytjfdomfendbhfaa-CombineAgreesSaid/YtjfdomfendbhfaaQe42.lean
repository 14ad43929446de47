/- Part 42 of the proof: Kn34, Upto, CellG. -/
import Derived.Test.YtjfdomfendbhfaaQe39
import Derived.Test.YtjfdomfendbhfaaQe41
set_option linter.unusedVariables false
set_option linter.unusedSimpArgs false
namespace Go.Proofs.Ytjfdomfendbhfaa
open Go.RowKit
theorem lets_at {u:List Nat} {i:Nat} (hu:zX 2 u) (hi:i < u.length):∃ h:i < (strOfNums (lets u)).size,(((strOfNums (lets u))[i]'h).toNat:Nat)=97+u.getD i 0:=by
 have hq:i < (strOfNums (lets u)).size:=by rw[strOfNums_size];simpa [lets] using hi
 refine⟨hq,?_⟩
 have e2:(strOfNums (lets u)).data.toList[i]'(by simpa using hq)=(strOfNums (lets u))[i]'hq:=rfl
 have e1:(strOfNums (lets u)).data.toList=(lets u).map (fun n=>UInt8.ofNat n.toNat):=strOfNums_data _
 rw[<- e2,zF hi]
 have e3:(lets u)[i]'(by simpa [lets] using hi)=97+((u[i]:Nat):Int):=by simp[lets]
 simp only[e1,List.getElem_map,e3]
 have:=hu _ (List.getElem_mem hi)
 rw[UInt8.toNat_ofNat']
 omega
theorem eZ {u:List Nat} {i:Nat} (hi:i < u.length):run dK 0 (u.take (i+1))=nx dK (run dK 0 (u.take i)) (u.getD i 0):=by
 rw[zW (d:=0) hi]
 unfold run
 rw[List.foldl_append];rfl
theorem nxK:nx dK 0 0=1/\nx dK 0 1=0/\nx dK 1 0=1/\nx dK 1 1=2/\nx dK 2 0=1/\nx dK 2 1=2:=by decide +kernel
theorem nxK_ne {q x:Nat} (hq:q < 3) (hx:x < 2):decide (nx dK q x≠0)=(decide (x=0) || decide (q≠0)):=by
 obtain⟨h1,h2,h3,h4,h5,h6⟩:=nxK
 rcases (by omega:q=0\/q=1\/q=2) with rfl|rfl|rfl <;> rcases (by omega:x=0\/x=1) with rfl|rfl <;> simp[h1,h2,h3,h4,h5,h6]
theorem accK (u:List Nat) (hu:zX 2 u):acc dK 0 u=decide (run dK 0 u=2):=by
 have h:=bB hu
 unfold acc
 generalize run dK 0 u=q at h
 rcases (by omega:q=0\/q=1\/q=2) with rfl|rfl|rfl <;> rfl
set_option maxRecDepth 100000 in
set_option maxHeartbeats 800000 in
theorem aR (w:World) (u:List Nat) (hu:zX 2 u) (hl:u.length<=4000) :
  Calls Try.prog 46 #[.string (strOfNums (lets u))] w fun e w'=>e=.returned (.bool (acc dK 0 u))/\w=w':=by
 have H2:Hid (∀ i,i < u.length->∃ h:i < (strOfNums (lets u)).size,(((strOfNums (lets u))[i]'h).toNat:Nat)=97+u.getD i 0):=Kh (fun i hi=>lets_at hu hi)
 obtain⟨S,hS⟩:∃ S,S=strOfNums (lets u):=⟨_,rfl⟩
 have a1:S.size=u.length:=by rw[hS,strOfNums_size];simp[lets]
 rw[<- hS]at H2 ⊢
 obtain⟨n,hn⟩:∃ n,n=u.length:=⟨_,rfl⟩
 rw[<- hn]at a1 H2 hl
 have HN:=Kh hn
 have H6:=Kh hu
 have a0:Hid (∀ i,zX 2 (u.take i)):=Kh (fun i a ha=>hu a (List.mem_of_mem_take ha))
 clear hS hn hu
 go_enter Try.func46,Try.ntmps46
 go_wp2
 go_loopg [3,4] n (fun gh v3 v4 wr=>∃ i:Nat,gh+i=n/\v4=.int .i64 i/\v3=.bool (decide (run dK 0 (u.take i)≠0))/\w=wr)
 case atStart=>exact⟨0,rfl,rfl,rfl,rfl⟩
 case round =>
  obtain⟨i,H9,rfl,rfl,rfl⟩:=hrel
  have h8:=Kh H9
  clear H9
  by_cases hi:i < n
  ·have a2:(i:Int) < S.size:=by omega
   obtain⟨hb,hx⟩:=H2.out i hi
   have H0:u.getD i 0 < 2:=H6.out _ (by rw[zF (by rw[<- HN.out];exact hi)];exact List.getElem_mem _)
   have H1:=Kh (nxK_ne (bB (a0.out i)) H0)
   rw[<- eZ (by rw[<- HN.out];exact hi)]at H1
   obtain⟨b,h7⟩:∃ b,b=decide (run dK 0 (u.take i)≠0):=⟨_,rfl⟩
   rw[<- h7]at H1 ⊢
   rcases (by omega:u.getD i 0=0\/u.getD i 0=1) with e|e
   ·rw[e]at hx H1
    have H3:((S[i].toNat:Nat):Int)=97:=by rw[hx];rfl
    have HE:Hid (decide (run dK 0 (u.take (i+1))≠0)=true):=Kh (by rw[H1.out];simp)
    clear hx e H0 h7
    cases b with
    | true =>
     go_wp2
     go_roundg (n - (i+1))
     case measure=>have:=h8.out;omega
     case rel=>exact⟨i+1,by have:=h8.out;omega,by go_num,by rw[HE.out],rfl⟩
    | false =>
     go_wp2
     go_roundg (n - (i+1))
     case measure=>have:=h8.out;omega
     case rel=>exact⟨i+1,by have:=h8.out;omega,by go_num,by rw[HE.out],rfl⟩
   ·rw[e]at hx H1
    have H3:((S[i].toNat:Nat):Int)=98:=by rw[hx];rfl
    have HE:Hid (decide (run dK 0 (u.take (i+1))≠0)=b):=Kh (by rw[H1.out];simp)
    clear hx e H0 h7
    cases b with
    | true =>
     go_wp2
     go_roundg (n - (i+1))
     case measure=>have:=h8.out;omega
     case rel=>exact⟨i+1,by have:=h8.out;omega,by go_num,by rw[HE.out],rfl⟩
    | false =>
     go_wp2
     go_roundg (n - (i+1))
     case measure=>have:=h8.out;omega
     case rel=>exact⟨i+1,by have:=h8.out;omega,by go_num,by rw[HE.out],rfl⟩
  ·have H5:i=n:=by have:=h8.out;omega
   have a2:¬ (i:Int) < S.size:=by omega
   have a3:Hid (u.take i=u):=Kh (List.take_of_length_le (by rw[<- HN.out];omega))
   obtain⟨bb,h7⟩:∃ b,b=decide (run dK 0 (u.take i)≠0):=⟨_,rfl⟩
   rw[<- h7]
   rw[a3.out]at h7
   have H7:=Kh (accK u H6.out)
   by_cases h0:run dK 0 u=0
   ·have HA:Hid (acc dK 0 u=false):=Kh (by rw[H7.out,h0];rfl)
    obtain rfl:bb=false:=by rw[h7];simp[h0]
    clear h0 H5 h7
    go_wp2
    go_ret
    exact⟨yD HA.out.symm,rfl⟩
   ·obtain rfl:bb=true:=by rw[h7];simp[h0]
    clear h7
    obtain⟨m,rfl⟩:∃ m,n=m+1:=by
     rcases Nat.eq_zero_or_pos n with hz|hz
     ·exfalso
      apply h0
      have H4:u=[]:=List.eq_nil_of_length_eq_zero (by rw[<- HN.out];exact hz)
      rw[H4];rfl
     ·exact⟨n - 1,by omega⟩
    obtain⟨hb,hx⟩:=H2.out m (by omega)
    have H0:u.getD m 0 < 2:=H6.out _ (by rw[zF (by rw[<- HN.out];omega)];exact List.getElem_mem _)
    have h9:=eZ (u:=u) (i:=m) (by rw[<- HN.out];omega)
    rw[List.take_of_length_le (by rw[<- HN.out];omega)]at h9
    have H8:=bB (a0.out m)
    have e5:((S.size:Nat):Int) - 1=(m:Int):=by omega
    have e6:IntKind.i64.wrap (((S.size:Nat):Int) - 1)=(m:Int):=by rw[e5];exact xX (by omega)
    have a4:(m:Int) < S.size:=by omega
    have a5:m < S.size:=by omega
    rcases (by omega:u.getD m 0=0\/u.getD m 0=1) with e|e
    ·rw[e]at hx h9
     have H3:((S[m].toNat:Nat):Int)=97:=by rw[hx];rfl
     have HA:Hid (acc dK 0 u=false):=Kh (by
      rw[H7.out,h9]
      obtain⟨h1,h2,h3,h4,h5,h6⟩:=nxK
      rcases (by omega:run dK 0 (u.take m)=0\/run dK 0 (u.take m)=1\/run dK 0 (u.take m)=2) with q|q|q <;> rw[q] <;> simp[h1,h3,h5])
     clear hx e H0 h9 H8 h0 H5
     go_wp2
     go_ret
     exact⟨yD HA.out.symm,rfl⟩
    ·rw[e]at hx h9
     have H3:((S[m].toNat:Nat):Int)=98:=by rw[hx];rfl
     have HA:Hid (acc dK 0 u=true):=Kh (by
      rw[H7.out]
      rw[h9]at h0 ⊢
      obtain⟨h1,h2,h3,h4,h5,h6⟩:=nxK
      rcases (by omega:run dK 0 (u.take m)=0\/run dK 0 (u.take m)=1\/run dK 0 (u.take m)=2) with q|q|q <;> rw[q]at h0 ⊢
      ·exact absurd h2 h0
      ·rw[h4];rfl
      ·rw[h6];rfl)
     clear hx e H0 h9 H8 h0 H5
     go_wp2
     go_ret
     exact⟨yD HA.out.symm,rfl⟩
theorem RowT.litC {B:Nat} {e:TypeId} {w:World} {b:Nat} {cs:Array Value} {m:Nat × Nat} {n:Nat} (h:w.heap[b]?=some (.cells cs e m)) (hb:b < B) (hn:cs.size=n) (hm:n<=maxLen):RowT B e w (.slice (some ⟨b,0,none⟩) n n) cs.toList :=
 .inr ⟨b,0,n,cs,m,by simp[hn],hb,by simp[hn],hm,h,fun i hi=>by
  rw[Nat.zero_add]
  have:i < cs.size:=by simpa using hi
  simp[this]⟩
theorem rQ {w:World} {v:Value} {svs:List Value} {l:List (List (List Int))} (h:RowT w.heap.size 28 w v svs) (hr:xS w.heap.size 9 strs w svs l) (hs:∀ p∈l,∀ u∈p,u.length<=4096):vI w.heap.size w v (famB l):=by
 refine⟨svs,h.row,by rw[tZ];exact hr.1,fun i h1 h2=>?_⟩
 have h3:i < l.length:=by rw[tZ]at h2;exact h2
 have e:(famB l)[i]=l[i].map strOfNums:=by simp[famB]
 rw[e]
 refine⟨?_,fun j hj=>?_⟩
 ·have:=(hr.2 i h1 h3).row
  rw[strs_txtV]at this
  exact this
 ·have h0:j < l[i].length:=by simpa using hj
  have:=hs l[i] (List.getElem_mem h3) _ (List.getElem_mem h0)
  have e2:(l[i].map strOfNums)[j]=strOfNums (l[i][j]):=by simp
  rw[e2,strOfNums_size];unfold maxLen;omega
theorem dK_lit (w:World):∃ w',w'=((((w.alloc (.cells #[.bool false,.bool false,.bool true] 4)).alloc (.cells #[.int .i64 1,.int .i64 0] 3)).alloc (.cells #[.int .i64 1,.int .i64 2] 3)).alloc (.cells #[.int .i64 1,.int .i64 2] 3)).alloc (.cells #[.slice (some ⟨w.heap.size+1,0,none⟩) 2 2,.slice (some ⟨w.heap.size+1+1,0,none⟩) 2 2,.slice (some ⟨w.heap.size+1+1+1,0,none⟩) 2 2] 34)/\w.grownBy w' none/\w'.heap.size=w.heap.size+5 /\
  tE w'.heap.size w' (.agg #[.int .i64 2,.int .i64 0,.slice (some ⟨w.heap.size,0,none⟩) 3 3,.slice (some ⟨w.heap.size+1+1+1+1,0,none⟩) 3 3]) dK:=by
 obtain⟨w1,h7⟩:∃ w1,w1=w.alloc (.cells #[.bool false,.bool false,.bool true] 4):=⟨_,rfl⟩
 obtain⟨w2,h6⟩:∃ w2,w2=w1.alloc (.cells #[.int .i64 1,.int .i64 0] 3):=⟨_,rfl⟩
 obtain⟨w3,h5⟩:∃ w3,w3=w2.alloc (.cells #[.int .i64 1,.int .i64 2] 3):=⟨_,rfl⟩
 obtain⟨w4,h4⟩:∃ w4,w4=w3.alloc (.cells #[.int .i64 1,.int .i64 2] 3):=⟨_,rfl⟩
 obtain⟨w5,h0⟩:∃ w5,w5=w4.alloc (.cells #[.slice (some ⟨w.heap.size+1,0,none⟩) 2 2,.slice (some ⟨w.heap.size+1+1,0,none⟩) 2 2,.slice (some ⟨w.heap.size+1+1+1,0,none⟩) 2 2] 34):=⟨_,rfl⟩
 have g1:w.grownBy w1 none:=by rw[h7];exact Ga _ _ _
 have g2:w1.grownBy w2 none:=by rw[h6];exact Ga _ _ _
 have g3:w2.grownBy w3 none:=by rw[h5];exact Ga _ _ _
 have g4:w3.grownBy w4 none:=by rw[h4];exact Ga _ _ _
 have g5:w4.grownBy w5 none:=by rw[h0];exact Ga _ _ _
 have z1:w1.heap.size=w.heap.size+1:=by rw[h7,zM]
 have z2:w2.heap.size=w.heap.size+2:=by rw[h6,zM,z1]
 have z3:w3.heap.size=w.heap.size+3:=by rw[h5,zM,z2]
 have z4:w4.heap.size=w.heap.size+4:=by rw[h4,zM,z3]
 have z5:w5.heap.size=w.heap.size+5:=by rw[h0,zM,z4]
 have b1:w5.heap[w.heap.size]?=some (.cells #[.bool false,.bool false,.bool true] 4 (0,0)):=zA (zA (zA (zA (by rw[h7];exact heap_alloc_new w _) g2 (by simp)) g3 (by simp)) g4 (by simp)) g5 (by simp)
 have b2:w5.heap[w.heap.size+1]?=some (.cells #[.int .i64 1,.int .i64 0] 3 (0,0)):=zA (zA (zA (by rw[h6,<- z1];exact heap_alloc_new w1 _) g3 (by simp)) g4 (by simp)) g5 (by simp)
 have b3:w5.heap[w.heap.size+1+1]?=some (.cells #[.int .i64 1,.int .i64 2] 3 (0,0)):=zA (zA (by rw[h5,<- z2];exact heap_alloc_new w2 _) g4 (by simp)) g5 (by simp)
 have b4:w5.heap[w.heap.size+1+1+1]?=some (.cells #[.int .i64 1,.int .i64 2] 3 (0,0)):=zA (by rw[h4,<- z3];exact heap_alloc_new w3 _) g5 (by simp)
 have b5:w5.heap[w.heap.size+1+1+1+1]?=some (.cells #[.slice (some ⟨w.heap.size+1,0,none⟩) 2 2,.slice (some ⟨w.heap.size+1+1,0,none⟩) 2 2,.slice (some ⟨w.heap.size+1+1+1,0,none⟩) 2 2] 34 (0,0)):=by rw[h0,<- z4];exact heap_alloc_new w4 _
 have m2:2<=maxLen:=by unfold maxLen;omega
 have m3:3<=maxLen:=by unfold maxLen;omega
 refine⟨w5,by rw[h0,h4,h5,h6,h7],zB (zB (zB (zB g1 g2 (by simp)) g3 (by simp)) g4 (by simp)) g5 (by simp),z5,_,_,rfl,?_,?_⟩
 ·exact(RowT.litC b1 (by omega) rfl m3).row
 ·refine Mat.of_rowT (RowT.litC b5 (by omega) rfl m3) ⟨rfl,fun i h1 h2=>?_⟩ (Nat.le_refl _)
  have h3:i < 3:=h2
  rcases (by omega:i=0\/i=1\/i=2) with rfl|rfl|rfl
  ·exact RowT.litC b2 (by omega) rfl m2
  ·exact RowT.litC b3 (by omega) rfl m2
  ·exact RowT.litC b4 (by omega) rfl m2
theorem jS {w':World} {v:Value} {g:DiaV} (h:qG w'.heap.size w' v g):∃ ap cp ac cc,v=.agg #[.slice ap g.pats.length cp,.slice ac g.chos.length cc,.int .i64 g.root]:=by
 obtain⟨pv,cv,rfl,h1,h2⟩:=h
 obtain⟨ap,cp,rfl⟩:=h1.shape
 obtain⟨ac,cc,rfl⟩:=h2.shape
 exact⟨ap,cp,ac,cc,rfl⟩
theorem vP (letters:Nat) (u:List Int):(block letters u 0).length=letters:=by simp[block]
theorem block_get {letters c:Nat} (u:List Int) (h:c < letters):(block letters u 0)[c]'(by rw[vP];exact h)=u ++ [97+(c:Int)]:=by simp[block]
theorem nF (letters:Nat):∀ n,upTo letters (n+1)=[[]] ++ (upTo letters n).flatMap fun u=>block letters u 0
 | 0=>by simp[upTo,lex]
 | n+1=>by
  have ih:=nF letters n
  rw[xH letters (n+1),fL]
  conv=>rhs;rw[xH letters n,List.flatMap_append,<- List.append_assoc,<- ih]
def grown (letters n i:Nat):List (List Int):=[[]] ++ ((upTo letters n).take i).flatMap fun u=>block letters u 0
theorem cD {letters n i:Nat} (h:(upTo letters n).length<=i):grown letters n i=upTo letters (n+1):=by
 rw[grown,List.take_of_length_le h,nF]
theorem mK {letters n i:Nat} (h:i < (upTo letters n).length):grown letters n (i+1)=grown letters n i ++ block letters (upTo letters n)[i] 0:=by
 rw[grown,List.take_succ_eq_append_getElem h,List.flatMap_append,<- List.append_assoc];simp[grown]
theorem cA (letters n i:Nat):grown letters n i <+: upTo letters (n+1):=by
 have e:upTo letters (n+1)=grown letters n i ++ ((upTo letters n).drop i).flatMap fun u=>block letters u 0:=by
  rw[nF,grown,List.append_assoc,<- List.flatMap_append,List.take_append_drop]
 rw[e];exact List.prefix_append _ _
theorem lI {letters n:Nat} (h1:1<=letters):∀ i,i<=(upTo letters n).length->i+1<=(grown letters n i).length
 | 0,_=>by simp[grown]
 | i+1,h=>by
  have:=lI (n:=n) h1 i (by omega)
  rw[mK (by omega),List.length_append,vP];omega
theorem upTo_pre (letters n:Nat):upTo letters n <+: upTo letters (n+1):=by rw[xH];exact List.prefix_append _ _
theorem qAT {α:Type} {a b:List α} (h:a <+: b) {i:Nat} (hi:i < a.length):a[i]=b[i]'(Nat.lt_of_lt_of_le hi h.length_le):=by
 obtain⟨c,rfl⟩:=h
 rw[List.getElem_append_left]
theorem oF {letters n:Nat} {u:List Int} (h:u∈upTo letters n):u.length < n:=by
 simp only[upTo,List.mem_flatMap,List.mem_range]at h
 obtain⟨m,hm,hu⟩:=h
 rw[(tW hu).1];exact hm
theorem upTo_last {letters n i:Nat} (h:(upTo letters n).length<=i) (hi:i < (upTo letters (n+1)).length):((upTo letters (n+1))[i]).length=n:=by
 have e:(upTo letters (n+1))[i]=(lex letters n)[i - (upTo letters n).length]'(by rw[xH,List.length_append]at hi;omega):=by
  simp only[xH]
  rw[List.getElem_append_right h]
 rw[e]
 exact(tW (List.getElem_mem _)).1
theorem grown_step {letters n i x:Nat} (h:i < (upTo letters n).length) (hx:x < letters):grown letters n i ++ (block letters (upTo letters n)[i] 0).take (x+1)=(grown letters n i ++ (block letters (upTo letters n)[i] 0).take x) ++ [(upTo letters n)[i] ++ [97+(x:Int)]]:=by
 rw[List.take_succ_eq_append_getElem (by rw[vP];exact hx),block_get _ hx,List.append_assoc]
theorem grown_part (letters n i x:Nat) (h:i < (upTo letters n).length):grown letters n i ++ (block letters (upTo letters n)[i] 0).take x <+: upTo letters (n+1):=by
 refine List.IsPrefix.trans ?_ (cA letters n (i+1))
 rw[mK h]
 exact List.prefix_append_right_inj _ |>.2 (List.take_prefix _ _)
theorem yL {w w':World} {p:Addr} {u:Value} (h:w.cell? p=some u) (hg:w.grownBy w' none):w'.cell? p=some u:=(World.cell?_of_block (hg.block p.block (World.block_lt_of_cell? w p h) (by simp))).trans h
end Go.Proofs.Ytjfdomfendbhfaa
