/- Part 14 of the proof: Sames, MapIn, Numb, DfaPlain. -/
import Derived.Test.YtdjhoadoiknaoaaDoorZC13
import Derived.Maps.Own
import Derived.Maps.Views
set_option linter.unusedVariables false
set_option linter.unusedSimpArgs false
namespace Go.Proofs.YtdjhoadoiknaoaaDoor
open Go.RowKit
theorem qU {xs:List Int} {k:Nat} (h:k < xs.length):xs.take (k+1)=xs.take k ++ [xs.getD k 0]:=by
 rw [List.take_add_one];simp [List.getD,h]
set_option maxHeartbeats 400000 in
theorem nD (B C:Nat) (w:World) (va vb:Value) (xs ys:List Int) (ha:Row B w va (ints xs)) (hb:Row C w vb (ints ys)) :
  Calls Tryd.prog 30 #[va,vb] w fun e w'=>e=.returned (.bool (decide (xs=ys)))∧∃ m,w'=w.drewN m:=by
 have hxl:=ha.len_le
 rw [zM] at hxl
 unfold maxLen at hxl
 have hyl:=hb.len_le
 rw [zM] at hyl
 unfold maxLen at hyl
 obtain ⟨aa,ac,rfl⟩:=ha.shape
 obtain ⟨ba,bc,rfl⟩:=hb.shape
 rw [zM] at ha hb ⊢
 rw [zM]
 by_cases hl:xs.length=ys.length
 ·by_cases h0:xs.length=0
  ·have hx:xs=[]:=List.eq_nil_of_length_eq_zero h0
   have hy:ys=[]:=List.eq_nil_of_length_eq_zero (by omega)
   subst hx;subst hy
   clear ha hb
   go_enter Tryd.func30,Tryd.ntmps30
   go_wp2
   go_loopg [13] 0 (fun g i wr=>i=.int .i64 0∧wr=w)
   case atStart=>exact ⟨rfl,rfl⟩
   case round =>
    obtain ⟨rfl,rfl⟩:=hrel
    go_wp2
    go_ret
    exact ⟨zT rfl,0,rfl⟩
  ·obtain ⟨ab,ao,ac',e,_,_,_,hra⟩:=ha.some_ (by rw [zM];omega)
   simp only [Value.slice.injEq] at e
   obtain ⟨rfl,-,-⟩:=e
   obtain ⟨bb,bo,bc',e,_,_,_,hrb⟩:=hb.some_ (by rw [zM];omega)
   simp only [Value.slice.injEq] at e
   obtain ⟨rfl,-,-⟩:=e
   have RA:=Kh hra;have RB:=Kh hrb;have HL:=Kh hl
   clear ha hb hra hrb
   rw [← hl]
   clear hl
   go_enter Tryd.func30,Tryd.ntmps30
   go_wp2
   go_loopg [13] xs.length (fun g i wr=>∃ k:Nat,g+k=xs.length∧i=.int .i64 k∧xs.take k=ys.take k∧∃ m,wr=w.drewN m)
   case atStart=>exact ⟨0,rfl,rfl,rfl,0,rfl⟩
   case round =>
    obtain ⟨k,hg,rfl,hok,m,rfl⟩:=hrel
    have HG:=Kh hg;have OK:=Kh hok;clear hg hok
    by_cases hk:k < xs.length
    ·have hk':(k:Int) < xs.length:=by omega
     have ca:=RA.out.int k hk
     have cb:=RB.out.int k (by have:=HL.out;omega)
     obtain ⟨z,hz⟩:∃ z,z=xs.getD k 0:=⟨_,rfl⟩
     obtain ⟨u,hu⟩:∃ u,u=ys.getD k 0:=⟨_,rfl⟩
     rw [← hz] at ca
     rw [← hu] at cb
     have HZ:=Kh hz;have HU:=Kh hu;clear hz hu
     by_cases hzu:z=u
     ·have HN:Hid (xs.take (k+1)=ys.take (k+1)):=Kh (by rw [qU hk,qU (by have:=HL.out;omega),OK.out,← HZ.out,← HU.out,hzu])
      subst hzu
      go_wp2
      go_quiet (fail)
      go_wp2
      go_roundg (xs.length - (k+1))
      case measure=>have:=HG.out;omega
      case rel=>exact ⟨k+1,by omega,by go_num,HN.out,_,rfl⟩
     ·have e1:(z != u)=true:=by rw [bne_iff_ne];exact hzu
      have HN:Hid (decide (xs=ys)=false):=Kh (by rw [decide_eq_false_iff_not];rintro rfl;exact hzu (by rw [HZ.out,HU.out]))
      go_wp2
      go_quiet (fail)
      go_wp2
      go_ret
      exact ⟨zT HN.out.symm,_,by rw [World.drewN_drewN]⟩
    ·have HY:Hid (decide (xs=ys)=true):=by
      have hkz:k=xs.length:=by have:=HG.out;omega
      have:=OK.out
      rw [List.take_of_length_le (by omega),List.take_of_length_le (by have:=HL.out;omega)] at this
      exact Kh (by rw [decide_eq_true_eq];exact this)
     go_wp2
     go_ret
     exact ⟨zT HY.out.symm,m,rfl⟩
 ·have e1:((xs.length:Int) != (ys.length:Int))=true:=by rw [bne_iff_ne];omega
  have HN:Hid (decide (xs=ys)=false):=Kh (by rw [decide_eq_false_iff_not];rintro rfl;exact hl rfl)
  clear ha hb
  go_enter Tryd.func30,Tryd.ntmps30
  go_wp2
  go_ret
  exact ⟨zT HN.out.symm,0,rfl⟩
def tG (xs:List Int) (s:Int):Bool:=xs.any fun b=>bits .and .i64 b s == s
def oU (xs:List Int) (s:Int) (k:Nat):Bool:=tG (xs.take k) s
theorem withinTo_succ {xs:List Int} {s:Int} {k:Nat} (h:k < xs.length):oU xs s (k+1)=(oU xs s k || (bits .and .i64 (xs.getD k 0) s == s)):=by
 unfold oU tG
 rw [qU h,List.any_append]
 simp
theorem within_yes {xs:List Int} {s:Int} {k:Nat} (h:k < xs.length) (hb:(bits .and .i64 (xs.getD k 0) s == s)=true):tG xs s=true:=by
 unfold tG
 rw [List.any_eq_true]
 exact ⟨xs.getD k 0,by simp [List.getD,h],hb⟩
set_option maxHeartbeats 400000 in
theorem within_any (B:Nat) (w:World) (va:Value) (xs:List Int) (s:Int) (ha:Row B w va (ints xs)) :
  Calls Tryd.prog 34 #[va,.int .i64 s] w fun e w'=>e=.returned (.bool (tG xs s))∧w=w':=by
 have hxl:=ha.len_le
 rw [zM] at hxl
 unfold maxLen at hxl
 obtain ⟨aa,ac,rfl⟩:=ha.shape
 rw [zM] at ha ⊢
 have HA:=Kh ha
 clear ha
 go_enter Tryd.func34,Tryd.ntmps34
 go_wp2
 go_loopg [9] xs.length (fun g i wr=>∃ k:Nat,g+k=xs.length∧i=.int .i64 k∧oU xs s k=false∧w=wr)
 case atStart=>exact ⟨0,rfl,rfl,rfl,rfl⟩
 case round =>
  obtain ⟨k,hg,rfl,hok,rfl⟩:=hrel
  have HG:=Kh hg;have OK:=Kh hok;clear hg hok
  by_cases hk:k < xs.length
  ·have hk':(k:Int) < xs.length:=by omega
   obtain ⟨ab,ao,ac',e,_,_,_,hra⟩:=HA.out.some_ (by rw [zM];omega)
   simp only [Value.slice.injEq] at e
   obtain ⟨rfl,-,-⟩:=e
   have ca:=hra.int k hk
   obtain ⟨z,hz⟩:∃ z,z=xs.getD k 0:=⟨_,rfl⟩
   rw [← hz] at ca
   have HZ:=Kh hz;clear hz hra
   cases hb:(bits .and .i64 z s == s) with
   | true =>
    have HY:Hid (tG xs s=true):=Kh (within_yes hk (by rw [← HZ.out];exact hb))
    go_wp2
    go_ret
    exact ⟨zT HY.out.symm,rfl⟩
   | false =>
    have HN:Hid (oU xs s (k+1)=false):=Kh (by rw [withinTo_succ hk,OK.out,← HZ.out,hb];rfl)
    go_wp2
    go_roundg (xs.length - (k+1))
    case measure=>have:=HG.out;omega
    case rel=>exact ⟨k+1,by omega,by go_num,HN.out,rfl⟩
  ·have HN:Hid (tG xs s=false):=by
    have hkz:k=xs.length:=by have:=HG.out;omega
    have:=OK.out
    unfold oU at this
    rw [List.take_of_length_le (by omega)] at this
    exact Kh this
   go_wp2
   go_ret
   exact ⟨zT HN.out.symm,rfl⟩
end Go.Proofs.YtdjhoadoiknaoaaDoor
namespace Go.Proofs.YtdjhoadoiknaoaaDoor
open Go.RowKit Go.Maps
theorem iH:Keyed Tryd.prog 3:=int_keyed (q:=.i64) (by kernel_rfl)
end Go.Proofs.YtdjhoadoiknaoaaDoor
namespace Go.Proofs.YtdjhoadoiknaoaaDoor
def uT {α:Type} [DecidableEq α] (acc:List α) (x:α):List α:=if x∈acc then acc else acc ++ [x]
def yN {α:Type} [DecidableEq α] (l:List α):List α:=l.foldl uT []
section
variable {α:Type} [DecidableEq α]
theorem rS {acc:List α} {x:α} (h:x∈acc):uT acc x=acc:=if_pos h
theorem rT {acc:List α} {x:α} (h:x ∉ acc):uT acc x=acc ++ [x]:=if_neg h
theorem mem_addNew {acc:List α} {x y:α}:y∈uT acc x ↔ y∈acc∨y=x:=by
 unfold uT
 split
 ·rename_i h
  exact ⟨.inl,fun h'=>by rcases h' with h'|rfl <;> assumption⟩
 ·simp
theorem qF (l:List α) (x:α):yN (l ++ [x])=uT (yN l) x:=by simp [yN,List.foldl_append]
theorem mem_foldl_addNew (l:List α):∀ (acc:List α) (y:α),y∈l.foldl uT acc ↔ y∈acc∨y∈l:=by
 induction l with
 | nil=>intro acc y;simp
 | cons a l ih=>intro acc y;rw [List.foldl_cons,ih,mem_addNew,List.mem_cons];exact or_assoc
theorem wO {l:List α} {y:α}:y∈yN l ↔ y∈l:=by rw [yN,mem_foldl_addNew];simp
theorem addNew_nodup {acc:List α} {x:α} (h:acc.Nodup):(uT acc x).Nodup:=by
 unfold uT
 split
 ·exact h
 ·rename_i hx
  rw [List.nodup_append]
  exact ⟨h,by simp,fun a ha b hb=>by rw [List.mem_singleton] at hb;subst hb;rintro rfl;exact hx ha⟩
theorem foldl_addNew_nodup (l:List α):∀ {acc:List α},acc.Nodup→(l.foldl uT acc).Nodup:=by
 induction l with
 | nil=>intro acc h;exact h
 | cons a l ih=>intro acc h;exact ih (addNew_nodup h)
theorem qQ (l:List α):(yN l).Nodup:=foldl_addNew_nodup l (by simp)
theorem addNew_prefix (acc:List α) (x:α):acc <+: uT acc x:=by
 unfold uT;split
 ·exact List.prefix_refl _
 ·exact List.prefix_append _ _
theorem foldl_addNew_prefix (l:List α):∀ (acc:List α),acc <+: l.foldl uT acc:=by
 induction l with
 | nil=>intro acc;exact List.prefix_refl _
 | cons a l ih=>intro acc;exact (addNew_prefix acc a).trans (ih _)
theorem firsts_take_prefix (l:List α) (k:Nat):yN (l.take k) <+: yN l:=by
 conv=>rhs;rw [← List.take_append_drop k l]
 rw [yN,yN,List.foldl_append]
 exact foldl_addNew_prefix _ _
theorem rG (l:List α):(yN l).length≤l.length:=by
 have key:∀ (l acc:List α),(l.foldl uT acc).length≤acc.length+l.length:=by
  intro l
  induction l with
  | nil=>intro acc;simp
  | cons a l ih =>
   intro acc
   rw [List.foldl_cons]
   have h1:=ih (uT acc a)
   have h2:(uT acc a).length≤acc.length+1:=by unfold uT;split <;> simp
   rw [List.length_cons];omega
 simpa [yN] using key l []
theorem idxOf_prefix {l m:List α} {x:α} (h:l <+: m) (hx:x∈l):m.idxOf x=l.idxOf x:=by
 obtain ⟨r,rfl⟩:=h
 rw [List.idxOf_append,if_pos hx]
theorem idxOf_inj {l:List α} {x y:α} (hx:x∈l) (h:l.idxOf x=l.idxOf y):x=y:=by
 have h1:=List.idxOf_lt_length_of_mem hx
 have e1:=List.getElem_idxOf h1
 have e2:=List.getElem_idxOf (show l.idxOf y < l.length by omega)
 rw [← e1,← e2];simp only [h]
def numb (l:List α):List Nat:=l.map fun x=>(yN l).idxOf x
theorem xQ (l:List α):(numb l).length=l.length:=by simp [numb]
theorem nK {l:List α} {i:Nat} (h:i < l.length):(numb l)[i]'(by rw [xQ];exact h)=(yN l).idxOf l[i]:=by simp [numb]
theorem numb_lt {l:List α}:∀ c∈numb l,c < (yN l).length:=by
 intro c hc
 obtain ⟨x,hx,rfl⟩:=List.mem_map.1 hc
 exact List.idxOf_lt_length_of_mem (wO.2 hx)
theorem numb_eq_iff {l:List α} {i j:Nat} (hi:i < l.length) (hj:j < l.length):(numb l).getD i 0=(numb l).getD j 0 ↔ l[i]=l[j]:=by
 simp only [List.getD,List.getElem?_eq_getElem (show i < (numb l).length by rw [xQ];exact hi),List.getElem?_eq_getElem (show j < (numb l).length by rw [xQ];exact hj),Option.getD_some,nK hi,nK hj]
 exact ⟨fun h=>idxOf_inj (wO.2 (List.getElem_mem hi)) h,fun h=>by rw [h]⟩
theorem numb_take {l:List α} {k:Nat} (hk:k < l.length):(yN (l.take (k+1))).idxOf l[k]=(yN l).idxOf l[k]:=by
 refine (idxOf_prefix (firsts_take_prefix l (k+1)) (wO.2 ?_)).symm
 rw [List.take_succ_eq_append_getElem hk];exact List.mem_append_right _ (List.mem_singleton_self _)
end
def SameKer (p q:List Nat):Prop:=p.length=q.length∧∀ i j,i < p.length→j < p.length→(p.getD i 0=p.getD j 0 ↔ q.getD i 0=q.getD j 0)
def Norm (p:List Nat):Prop:=numb p=p
theorem zV {α:Type} {l:List α} {i:Nat} {d:α} (h:i < l.length):l.getD i d=l[i]:=by simp [List.getD,List.getElem?_eq_getElem h]
theorem numb_congr {α β:Type} [DecidableEq α] [DecidableEq β]:∀ (l:List α) (m:List β) (he:l.length=m.length),(∀ i j (hi:i < l.length) (hj:j < l.length),(l[i]=l[j] ↔ m[i]'(by omega)=m[j]'(by omega)))→numb l=numb m:=by
 intro l m he h
 -- positions of first occurrences
 have key:∀ (k:Nat) (hk:k≤l.length),∃ ps:List (Fin l.length),yN (l.take k)=ps.map (fun i=>l[i])∧yN (m.take k)=ps.map (fun i=>m[i.1]'(by omega)):=by
  intro k
  induction k with
  | zero=>intro _;exact ⟨[],by simp [yN],by simp [yN]⟩
  | succ k ih =>
   intro hk
   obtain ⟨ps,h1,h2⟩:=ih (by omega)
   have hkl:k < l.length:=by omega
   rw [List.take_succ_eq_append_getElem hkl,List.take_succ_eq_append_getElem (show k < m.length by omega),qF,qF,h1,h2]
   have hmem:(l[k]∈ps.map (fun i=>l[i])) ↔ (m[k]'(by omega)∈ps.map (fun i=>m[i.1]'(by omega))):=by
    simp only [List.mem_map]
    constructor
    ·rintro ⟨i,hi,e⟩;exact ⟨i,hi,(h i.1 k i.2 hkl).1 e⟩
    ·rintro ⟨i,hi,e⟩;exact ⟨i,hi,(h i.1 k i.2 hkl).2 e⟩
   by_cases hm:l[k]∈ps.map (fun i=>l[i])
   ·exact ⟨ps,rS hm,rS (hmem.1 hm)⟩
   ·refine ⟨ps ++ [⟨k,hkl⟩],?_,?_⟩
    ·rw [rT hm];simp
    ·rw [rT (fun h'=>hm (hmem.2 h'))];simp
 obtain ⟨ps,h1,h2⟩:=key l.length (Nat.le_refl _)
 rw [List.take_length] at h1
 rw [show m.take l.length=m from List.take_of_length_le (by omega)] at h2
 refine List.ext_getElem (by simp [numb,he]) fun i hi _=>?_
 rw [xQ] at hi
 rw [nK hi,nK (by omega),h1,h2]
 have aux:∀ (qs:List (Fin l.length)),(qs.map (fun i=>l[i])).idxOf l[i]=(qs.map (fun i=>m[i.1]'(by omega))).idxOf (m[i]'(by omega)):=by
  intro qs
  induction qs with
  | nil=>simp
  | cons a qs ih =>
   rw [List.map_cons,List.map_cons,List.idxOf_cons,List.idxOf_cons,ih]
   have:=h a.1 i a.2 hi
   by_cases e:l[a]=l[i]
   ·have e':=this.1 e
    simp only [beq_iff_eq.2 e,beq_iff_eq.2 e']
   ·have e':¬ (m[a.1]'(by omega)=m[i]'(by omega)):=fun h'=>e (this.2 h')
    simp only [beq_eq_false_iff_ne.2 e,beq_eq_false_iff_ne.2 e']
 exact aux ps
theorem numb_norm {α:Type} [DecidableEq α] (l:List α):Norm (numb l):=by
 refine numb_congr _ _ (xQ l) fun i j hi hj=>?_
 rw [xQ] at hi hj
 have:=numb_eq_iff (l:=l) hi hj
 rw [zV (by rw [xQ];exact hi),zV (by rw [xQ];exact hj)] at this
 exact this
theorem norm_ext {p q:List Nat} (hp:Norm p) (hq:Norm q) (h:SameKer p q):p=q:=by
 rw [← hp,← hq]
 refine numb_congr _ _ h.1 fun i j hi hj=>?_
 have:=h.2 i j hi hj
 rw [zV hi,zV hj,zV (by rw [← h.1];exact hi),zV (by rw [← h.1];exact hj)] at this
 exact this
end Go.Proofs.YtdjhoadoiknaoaaDoor
namespace Go.Proofs.YtdjhoadoiknaoaaDoor
structure DfaV where
 letters:Int
 start:Int
 final:List Bool
 next:List (List Int)
def rowD (letters:Int) (n:Nat) (r:List Int):Bool:=decide ((r.length:Int)=letters) && r.all fun x=>decide (0≤x∧x < n)
def tH (d:DfaV):Int :=
 if d.letters < 1∨6 < d.letters then 1 else if 512 < d.final.length then 3
 else if d.final.length=0∨d.next.length≠d.final.length∨d.start < 0∨d.final.length≤d.start then 4
 else if d.next.all (rowD d.letters d.final.length) then 0 else 4
structure VD (d:DfaV) (n k:Nat):Prop where
 hk:d.letters=k
 k1:1≤k
 k6:k≤6
 hn:d.final.length=n
 n1:1≤n
 n512:n≤512
 nl:d.next.length=n
 s0:0≤d.start
 sn:d.start < n
 row:∀ q,q < n→(d.next.getD q []).length=k
 lo:∀ q a,q < n→a < k→0≤ent d.next q a
 hi:∀ q a,q < n→a < k→ent d.next q a < n
theorem nH {k:Int} {n:Nat} {r:List Int}:rowD k n r=true ↔ (r.length:Int)=k∧∀ y,y < r.length→0≤r.getD y 0∧r.getD y 0 < n:=by
 simp only [rowD,Bool.and_eq_true,decide_eq_true_eq,List.all_eq_true]
 refine and_congr_right fun _=>⟨fun h y hy=>?_,fun h x hx=>?_⟩
 ·have:=h (r[y]) (List.getElem_mem hy)
  rwa [← zV (d:=0) hy] at this
 ·obtain ⟨y,hy,rfl⟩:=List.getElem_of_mem hx
  have:=h y hy
  rwa [zV hy] at this
theorem vd_of {d:DfaV} (h:tH d=0):VD d d.final.length d.letters.toNat:=by
 unfold tH at h
 split at h
 ·omega
 rename_i h1
 split at h
 ·omega
 rename_i h2
 split at h
 ·omega
 rename_i h3
 split at h
 ·rename_i h4
  rw [List.all_eq_true] at h4
  have hr:∀ q,q < d.next.length→rowD d.letters d.final.length (d.next.getD q [])=true:=fun q hq=>by
   rw [zV hq];exact h4 _ (List.getElem_mem hq)
  have hnl:d.next.length=d.final.length:=by
   apply Classical.byContradiction;intro hh;exact h3 (.inr (.inl hh))
  refine ⟨by omega,by omega,by omega,rfl,by omega,by omega,hnl,by omega,by omega,fun q hq=>?_,fun q a hq ha=>?_,fun q a hq ha=>?_⟩
  ·have:=(nH.1 (hr q (by omega))).1;omega
  ·obtain ⟨e,h⟩:=nH.1 (hr q (by omega))
   exact (h a (by omega)).1
  ·obtain ⟨e,h⟩:=nH.1 (hr q (by omega))
   exact (h a (by omega)).2
 ·omega
theorem validD_of {d:DfaV} {n k:Nat} (h:VD d n k):tH d=0:=by
 unfold tH
 rw [if_neg (by have:=h.hk;have:=h.k1;have:=h.k6;omega),if_neg (by have:=h.hn;have:=h.n512;omega),
  if_neg (by have:=h.hn;have:=h.n1;have:=h.nl;have:=h.s0;have:=h.sn;omega),if_pos]
 rw [List.all_eq_true]
 intro r hr
 obtain ⟨q,hq,rfl⟩:=List.getElem_of_mem hr
 have hq':q < n:=by have:=h.nl;omega
 rw [nH]
 have hl:=h.row q hq'
 rw [zV hq] at hl
 refine ⟨by rw [hl,h.hk],fun y hy=>?_⟩
 have h1:=h.lo q y hq' (by omega)
 have h2:=h.hi q y hq' (by omega)
 unfold ent at h1 h2
 rw [zV hq] at h1 h2
 rw [h.hn]
 exact ⟨h1,h2⟩
def nx (d:DfaV) (q a:Nat):Nat:=entN d.next q a
theorem nx_cast {d:DfaV} {n k:Nat} (h:VD d n k) {q a:Nat} (hq:q < n) (ha:a < k):(nx d q a:Int)=ent d.next q a:=Int.toNat_of_nonneg (h.lo q a hq ha)
theorem nx_lt {d:DfaV} {n k:Nat} (h:VD d n k) {q a:Nat} (hq:q < n) (ha:a < k):nx d q a < n:=by
 have h1:=nx_cast h hq ha
 have h2:=h.hi q a hq ha
 omega
def st0 (d:DfaV):Nat:=d.start.toNat
theorem st0_cast {d:DfaV} {n k:Nat} (h:VD d n k):(st0 d:Int)=d.start:=Int.toNat_of_nonneg h.s0
theorem iQ {d:DfaV} {n k:Nat} (h:VD d n k):st0 d < n:=by have:=st0_cast h;have:=h.sn;omega
def finB (b:Bool):Int:=if b then 1 else 0
def part0 (d:DfaV):List Nat:=numb (d.final.map finB)
def colTo (d:DfaV) (p:List Nat) (a:Nat):List Nat:=(List.range p.length).map fun q=>p.getD (nx d q a) 0
def jS (m:Nat) (a b:Nat):Int:=(a:Int) * (m+1)+b
def bothL (p q:List Nat):List Int:=List.zipWith (jS p.length) p q
def both8 (p q:List Nat):List Nat:=numb (bothL p q)
def refTo (d:DfaV) (p:List Nat):Nat→List Nat
 | 0=>p
 | k+1=>both8 (refTo d p k) (colTo d p k)
theorem part0_length (d:DfaV):(part0 d).length=d.final.length:=by simp [part0,xQ]
theorem sY (d:DfaV) (p:List Nat) (a:Nat):(colTo d p a).length=p.length:=by simp [colTo]
theorem qT {p q:List Nat} (h:q.length=p.length):(bothL p q).length=p.length:=by simp [bothL,h]
theorem both8_length {p q:List Nat} (h:q.length=p.length):(both8 p q).length=p.length:=by rw [both8,xQ,qT h]
theorem xI (d:DfaV) (p:List Nat):∀ k,(refTo d p k).length=p.length
 | 0=>rfl
 | k+1=>by rw [refTo,both8_length (by rw [sY,xI d p k]),xI d p k]
theorem jH {p:List Nat} (h:Norm p):∀ c∈p,c < p.length:=by
 intro c hc
 have h1:=numb_lt (l:=p)
 rw [h] at h1
 have:=h1 c hc
 have:=rG p
 omega
theorem pairNo_inj {m a b a' b':Nat} (hb:b≤m) (hb':b'≤m):jS m a b=jS m a' b' ↔ a=a'∧b=b':=by
 unfold jS
 constructor
 ·intro h
  have h':a * (m+1)+b=a' * (m+1)+b':=by exact_mod_cast h
  have e1:(a * (m+1)+b) / (m+1)=a:=by rw [Nat.mul_comm,Nat.mul_add_div (by omega),Nat.div_eq_of_lt (by omega)];omega
  have e2:(a' * (m+1)+b') / (m+1)=a':=by rw [Nat.mul_comm,Nat.mul_add_div (by omega),Nat.div_eq_of_lt (by omega)];omega
  have ha:a=a':=by rw [← e1,← e2,h']
  subst ha
  exact ⟨rfl,by omega⟩
 ·rintro ⟨rfl,rfl⟩;rfl
theorem both8_iff {p q:List Nat} (h:q.length=p.length) (hq:∀ c∈q,c < p.length) {i j:Nat} (hi:i < p.length) (hj:j < p.length) :
  (both8 p q).getD i 0=(both8 p q).getD j 0 ↔ p.getD i 0=p.getD j 0∧q.getD i 0=q.getD j 0:=by
 have hi':i < (bothL p q).length:=by rw [qT h];exact hi
 have hj':j < (bothL p q).length:=by rw [qT h];exact hj
 rw [both8,numb_eq_iff hi' hj']
 simp only [bothL,List.getElem_zipWith]
 rw [pairNo_inj (Nat.le_of_lt (hq _ (List.getElem_mem _))) (Nat.le_of_lt (hq _ (List.getElem_mem _))),zV hi,zV hj,zV (show i < q.length by omega),zV (show j < q.length by omega)]
theorem kR {d:DfaV} {p:List Nat} {a i:Nat} (hi:i < p.length):(colTo d p a).getD i 0=p.getD (nx d i a) 0:=by
 rw [zV (by rw [sY];exact hi)];simp [colTo]
theorem nM {p:List Nat} {n i:Nat} (h:∀ c∈p,c < n) (hn:0 < n):p.getD i 0 < n:=by
 by_cases hi:i < p.length
 ·rw [zV hi];exact h _ (List.getElem_mem hi)
 ·rw [List.getD,List.getElem?_eq_none (by omega)];exact hn
theorem kE {d:DfaV} {n k:Nat} (hd:VD d n k) {p:List Nat} (hp:p.length=n) (hlt:∀ c∈p,c < n) {i j:Nat} (hi:i < n) (hj:j < n) :
  ∀ m,m≤k→((refTo d p m).getD i 0=(refTo d p m).getD j 0 ↔ p.getD i 0=p.getD j 0∧∀ a,a < m→p.getD (nx d i a) 0=p.getD (nx d j a) 0)
 | 0,_=>by simp [refTo]
 | m+1,hm=>by
  rw [refTo,both8_iff (by rw [sY,xI]) (fun c hc=>?_) (by rw [xI];omega) (by rw [xI];omega),kE hd hp hlt hi hj m (by omega),kR (by omega),kR (by omega)]
  ·constructor
   ·rintro ⟨⟨h1,h2⟩,h3⟩
    refine ⟨h1,fun a ha=>?_⟩
    rcases Nat.lt_succ_iff_lt_or_eq.1 ha with ha|rfl
    ·exact h2 a ha
    ·exact h3
   ·rintro ⟨h1,h2⟩
    exact ⟨⟨h1,fun a ha=>h2 a (by omega)⟩,h2 m (by omega)⟩
  ·rw [xI,hp]
   obtain ⟨q,hq,rfl⟩:=List.mem_map.1 hc
   exact nM hlt hd.n1
theorem mU {d:DfaV} {p:List Nat} (hp:Norm p):∀ m,Norm (refTo d p m)
 | 0=>hp
 | m+1=>numb_norm _
def cls (p:List Nat):Nat:=(yN p).length
theorem cls_mono {p q:List Nat} (hl:q.length=p.length) (h:∀ i j,i < p.length→j < p.length→q.getD i 0=q.getD j 0→p.getD i 0=p.getD j 0) :
  cls p≤cls q∧(cls p=cls q→∀ i j,i < p.length→j < p.length→p.getD i 0=p.getD j 0→q.getD i 0=q.getD j 0):=by
 -- the classes of q are mapped onto those of p
 let f:Nat→Nat:=fun c=>p.getD (q.idxOf c) 0
 have hf:∀ i,i < p.length→f (q.getD i 0)=p.getD i 0:=by
  intro i hi
  have hi':i < q.length:=by omega
  have hm:q.getD i 0∈q:=by rw [zV hi'];exact List.getElem_mem _
  have hlt:=List.idxOf_lt_length_of_mem hm
  refine h _ i (by omega) hi ?_
  rw [zV hlt,List.getElem_idxOf]
 have hsub:∀ c∈yN p,c∈(yN q).map f:=by
  intro c hc
  obtain ⟨i,hi,rfl⟩:=List.getElem_of_mem (wO.1 hc)
  rw [List.mem_map]
  refine ⟨q.getD i 0,wO.2 (by rw [zV (by omega)];exact List.getElem_mem _),?_⟩
  rw [hf i hi,zV hi]
 have hle:(yN p).length≤((yN q).map f).length:=(qQ p).length_le_of_subset hsub
 rw [List.length_map] at hle
 refine ⟨hle,fun e i j hi hj hp=>?_⟩
 have hinj:∀ x∈yN q,∀ y∈yN q,f x=f y→x=y:=by
  intro x hx y hy hxy
  apply Classical.byContradiction
  intro hne
  have hsub2:∀ c∈yN p,c∈((yN q).erase x).map f:=by
   intro c hc
   obtain ⟨z,hz,rfl⟩:=List.mem_map.1 (hsub c hc)
   by_cases e:z=x
   ·subst e
    exact List.mem_map.2 ⟨y,(List.mem_erase_of_ne (Ne.symm hne)).2 hy,hxy.symm⟩
   ·exact List.mem_map.2 ⟨z,(List.mem_erase_of_ne e).2 hz,rfl⟩
  have h1:=(qQ p).length_le_of_subset hsub2
  rw [List.length_map,List.length_erase_of_mem hx] at h1
  have h2:=List.length_pos_of_mem hx
  unfold cls at e
  omega
 have mem:∀ i,i < p.length→q.getD i 0∈yN q:=fun i hi=>wO.2 (by rw [zV (by omega)];exact List.getElem_mem _)
 exact hinj _ (mem i hi) _ (mem j hj) (by rw [hf i hi,hf j hj,hp])
end Go.Proofs.YtdjhoadoiknaoaaDoor
