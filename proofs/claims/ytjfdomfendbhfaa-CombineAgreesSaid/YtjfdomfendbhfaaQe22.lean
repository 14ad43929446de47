/- Part 22 of the proof: BSea, PatMap. -/
import Derived.Test.YtjfdomfendbhfaaQe21
set_option linter.unusedVariables false
set_option linter.unusedSimpArgs false
namespace Go.Proofs.Ytjfdomfendbhfaa
open Go.RowKit
def kmpN (k c:Nat) (u:List Nat) (j:Nat):List Nat:=(List.range k).map fun a=>c+kmp u (u.take j ++ [a])
def xN (k c:Nat) (u:List Nat) (m:Nat):List (List Nat):=(List.range m).map (kmpN k c u)
theorem oS (k c:Nat) (u:List Nat) (j:Nat):(kmpN k c u j).length=k:=by simp[kmpN]
theorem kmpN_get {k c:Nat} {u:List Nat} {j a:Nat} (h:a < k):(kmpN k c u j).getD a 0=c+kmp u (u.take j ++ [a]):=yQ _ h _
theorem xT (k c:Nat) (u:List Nat) (m:Nat):(xN k c u m).length=m:=by simp[xN]
theorem mZ (k c:Nat) (u:List Nat) (m:Nat):xN k c u (m+1)=xN k c u m ++ [kmpN k c u m]:=by simp[xN,List.range_succ]
theorem searchN_get {k c:Nat} {u:List Nat} {m j:Nat} (h:j < m):(xN k c u m).getD j []=kmpN k c u j:=yQ _ h _
theorem row_zero {k c:Nat} {u:List Nat} (hu:u≠[]):(List.replicate k c).set (u.getD 0 0) (c+1)=kmpN k c u 0:=by
 have h0:0 < u.length:=List.length_pos_iff.2 hu
 refine List.ext_getElem (by simp[kmpN]) fun i h1 h2=>?_
 rw[List.getElem_set]
 simp only[kmpN,List.getElem_map,List.getElem_range,List.getElem_replicate]
 by_cases e:u.getD 0 0=i
 ·rw[if_pos e,<- e,qCP h0]
 ·rw[if_neg e,aK (.inr e)];rfl
theorem row_next {k c:Nat} {u:List Nat} {i:Nat} (h0:0 < i) (h:i < u.length):(kmpN k c u (pW u i)).set (u.getD i 0) (c+i+1)=kmpN k c u i:=by
 refine List.ext_getElem (by simp[kmpN]) fun j h1 h2=>?_
 rw[List.getElem_set]
 simp only[kmpN,List.getElem_map,List.getElem_range]
 by_cases e:u.getD i 0=j
 ·rw[if_pos e,<- e,qCP h];omega
 ·rw[if_neg e,aL h0 (by omega) (.inr e)]
theorem bY {k c:Nat} {u:List Nat} (h0:0 < u.length):kmpN k c u (pW u u.length)=kmpN k c u u.length:=by
 refine List.map_congr_left fun a _=>?_
 rw[aL h0 (Nat.le_refl _) (.inl rfl)]
theorem gT {k:Nat} {t:List (List Nat)} {u:List Nat} {m j:Nat} (h:j < m):(t ++ xN k t.length u m).getD (t.length+j) []=kmpN k t.length u j:=by
 rw[xM,searchN_get h]
theorem aY {W : World} {g s k : Nat} {r q : List Nat} (hg : Arr W g 3 (nats q)) (hq : q.length = k) (hs : Arr W s 3 (nats r)) (hr : r.length = k) :
  (Builtin.copy_ #[34, 34] 3 #[.slice (some ⟨g, 0, none⟩) k k, .slice (some ⟨s, 0, none⟩) k k]).run Try.prog W = .ok (.int .i64 (k : Int)) (W.setCells g 0 (nats r)) ∧ Arr (W.setCells g 0 (nats r)) g 3 (nats r) ∧ W.grownBy (W.setCells g 0 (nats r)) (some g) := by
 have hl : (nats r).length = k := by rw [yB, hr]
 refine ⟨?_, ?_, ?_⟩
 ·have := run_copy_cells (P := Try.prog) W 34 34 3 3 g 0 k k ⟨s, 0, none⟩ k k (nats r) Try.underlying34 (by kernel_rfl) (by rw [hl]; simp [Nat.min_def])
   (fun j u hj => by
    obtain ⟨hj1, hj2⟩ := List.getElem?_eq_some_iff.1 hj
    have := hs.cell j hj1
    rw [hj2] at this
    have e : (⟨s, 0, none⟩ : Addr).add j = ⟨s, j, none⟩ := by
     unfold Addr.add; split <;> simp_all
    rw [e]; exact this)
   (fun j hj => by rw [Nat.zero_add, hg.cell j (by rw [yB] at *; omega)]; rfl) (fun j _ => hg.frozen _) (fun v hv => by
    obtain ⟨x, _, rfl⟩ := List.mem_map.1 hv; rfl)
  rw [this, hl]; rfl
 ·have := hg.setCells (nats r) 0 (by rw [Nat.zero_add, hl, yB]; omega)
  rw [List.take_zero, List.nil_append, Nat.zero_add, List.drop_eq_nil_of_le (by rw [hl, yB]; omega), List.append_nil] at this
  exact this
 ·have key : ∀ (vs : List Value) (o : Nat) (W : World), W.grownBy (W.setCells g o vs) (some g) := fun vs => by
   induction vs with
   | nil => intro o W; exact zN _ _
   | cons v vs ih => intro o W; rw [World.setCells]; exact zD (zC W ⟨g, o, none⟩ v) (ih (o + 1) _)
  exact key _ _ _
theorem BB.setLast {W0 W W':World} {bb k:Nat} {t:List (List Nat)} {gs:List Nat} {sn:Option Addr} {cn:Nat} {r r':List Nat} {g:Nat} (h:BB W0 W bb k (t ++ [r]) (gs ++ [g]) sn cn) (hr:r'.length=k) (hg:W.grownBy W' (some g)) (ha:Arr W' g 3 (nats r')):BB W0 W' bb k (t ++ [r']) (gs ++ [g]) sn cn:=by
 have e:(gs ++ [g]).getD t.length 0=g:=qK h.lastlen.symm
 have:=h.set (i:=t.length) (by simp) hr (by rw[e];exact hg) (by rw[e];exact ha)
 rwa [bW rfl]at this
def Searched (W0:World) (bb k:Nat) (t:List (List Nat)) (u:List Nat) (e:Ending) (W':World):Prop :=
 ∃ gs sn cn,e=.returned (.slice (some ⟨gs.getD (t.length+pW u u.length) 0,0,none⟩) k k)/\BB W0 W' bb k (t ++ xN k t.length u u.length) gs sn cn
theorem gH {u:ByteArray} {k i:Nat} (h:∀ i (hi:i < u.size),97<=u[i].toNat/\u[i].toNat - 97 < k) (hi:i < u.size):∃ b a:Nat,(u[i].toNat:Int)=(b:Int)/\IntKind.u8.wrap ((b:Int) - 97)=(a:Int)/\((b:Int) - 97) % 256=(a:Int)/\a < k/\(zI u).getD i 0=a:=by
 have hb:=h i hi
 have h0:u[i].toNat < 256:=u[i].toNat_lt
 exact⟨u[i].toNat,u[i].toNat - 97,rfl,qAJ hb.1 h0,by omega,hb.2,rY hi⟩
set_option maxRecDepth 100000 in
set_option maxHeartbeats 1600000 in
theorem jU (W0 W:World) (bb k:Nat) (t:List (List Nat)) (gs:List Nat) (sn:Option Addr) (cn:Nat) (u:ByteArray) (h:BB W0 W bb k t gs sn cn) (ht:t.length<=500) (hk1:1<=k) (hk6:k<=6) (hu:zP u (k:Int)=true) (h0:0 < u.size) (hl:u.size<=64) :
  Calls Try.prog 108 #[.pointer (some ⟨bb,0,none⟩),.string u] W (Searched W0 bb k t (zI u)):=by
 obtain⟨c0,c1,f1⟩:=h.cells
 have H:=Kh h
 have HU:=Kh (wV hu)
 obtain⟨v,hv⟩:∃ v,v=zI u:=⟨_,rfl⟩
 have H3:v.length=u.size:=by rw[hv,yH]
 have a5:v≠[]:=by intro e;rw[e]at H3;simp at H3;omega
 rw[<- hv]
 have HV:=Kh hv;have d3:=Kh a5;have H2:=Kh H3
 obtain⟨c,hc⟩:∃ c,c=t.length:=⟨_,rfl⟩
 rw[<- hc]at c1 ht
 have HC:=Kh hc
 have d9:(0:Int) < u.size:=by omega
 clear h hu hv H3 a5 hc
 go_enter Try.func108,Try.ntmps108
 go_wp2_with fail
 refine(qB W0 W bb k t gs sn cn c H.out hk1 hk6 (by have:=HC.out;omega)).mono ?_
 rintro e w1 ⟨g,sn1,cn1,rfl,a1⟩
 obtain⟨b0,a0,d1,c4,c7,h8,H0⟩:=gH HU.out.2.1 h0
 have hr:=a1.last
 have ca:=hr.1.nat a0 (by simp;omega)
 have fa:=hr.1.frozen a0
 have a2:(a0:Int) < k:=by omega
 have c5:(nats (List.replicate k c)).length=k:=by rw[yB,List.length_replicate]
 have c3:Hid (BB W0 (w1.setCell ⟨g,a0,none⟩ (.int .i64 ((c+1:Nat):Int))) bb k (t ++ xN k c v 1) (gs ++ [g]) sn1 cn1):=Kh (by
  have:=a1.putLast h8 (c+1)
  rw[show xN k c v 1=[kmpN k c v 0] by rfl,<- row_zero d3.out,HV.out,H0];exact this)
 clear hr a1 H0 c0 c1 f1 H
 go_wp2_with fail
 obtain⟨w2,H7⟩:∃ w2,w2=w1.setCell ⟨g,a0,none⟩ (.int .i64 ((c:Int)+1)):=⟨_,rfl⟩
 have c2:Hid (BB W0 w2 bb k (t ++ xN k c v 1) (gs ++ [g]) sn1 cn1):=Kh (by
  rw[H7,show ((c:Int)+1)=((c+1:Nat):Int) by omega];exact c3.out)
 rw[<- H7]
 clear H7 ca fa c3
 go_loopg [7,8,9] (u.size - 1) (fun gh a7 i a9 wr=>∃ (j:Nat) (gs:List Nat) (sn:Option Addr) (cn:Nat),gh+j=u.size/\i=.int .i64 j/\1<=j/\a7=.int .i64 ((c+pW v j:Nat):Int)/\BB W0 wr bb k (t ++ xN k c v j) gs sn cn)
 case atStart=>exact⟨1,_,_,_,by omega,rfl,Nat.le_refl _,by rw[backK_one (by rw[H2.out];omega)];rfl,c2.out⟩
 case round =>
  clear c2
  obtain⟨j,gs,sn,cn,b2,rfl,d8,rfl,h2⟩:=hrel
  have a3:=Kh b2
  have c8:j<=u.size:=by omega
  clear b2
  have a6:(t ++ xN k c v j).length=c+j:=by rw[List.length_append,xT,HC.out]
  have b7:pW v j < j:=eH (by omega) (by rw[H2.out];exact c8)
  obtain⟨q,hq⟩:∃ q,q=pW v j:=⟨_,rfl⟩
  rw[<- hq]at b7 ⊢
  have HQ:=Kh hq;have h1:=Kh a6
  clear hq a6
  by_cases hj:j < u.size
  ·have c9:(j:Int) < u.size:=by omega
   go_wp2_with fail
   refine(qB W0 wr bb k _ gs sn cn c h2 hk1 hk6 (by rw[h1.out];omega)).mono ?_
   rintro e w4 ⟨g4,sn4,cn4,rfl,h4⟩
   obtain⟨c0,c1,f1⟩:=h4.cells
   rw[List.length_append,h1.out,List.length_singleton]at c1
   obtain⟨h6,cap4,rfl,rfl,H9,h9,h7⟩:=h4.hd (by rw[List.length_append,List.length_singleton];omega)
   rw[List.length_append,h1.out,List.length_singleton]at H9 h7
   have h5:=h4.row (c+q) (by rw[List.length_append,h1.out];omega)
   have b1:gs.length=c+j:=by rw[h2.len,h1.out]
   have e1:(gs ++ [g4]).getD (c+q) 0=gs.getD (c+q) 0:=yC (by omega) 0
   have e2:((t ++ xN k c v j) ++ [List.replicate k c]).getD (c+q) []=kmpN k c v q:=by
    rw[yC (by rw[h1.out];omega),HC.out,gT b7]
   rw[e1,e2]at h5
   have chd:=h7 (c+q) (by omega)
   rw[e1]at chd
   obtain⟨s,hs⟩:∃ s,s=gs.getD (c+q) 0:=⟨_,rfl⟩
   rw[<- hs]at h5 chd
   replace chd:w4.cell? ⟨h6,c+q,none⟩=some (.slice (some ⟨s,0,none⟩) k k):=chd
   obtain⟨b4,b6,b5⟩:=aY h4.last.1 h4.last.2 h5.1 h5.2
   have H4:=h4.setLast h5.2 b5 b6
   obtain⟨w5,a4⟩:∃ w5,w5=w4.setCells g4 0 (nats (kmpN k c v q)):=⟨_,rfl⟩
   rw[<- a4]at b4 H4
   obtain⟨b0,a0,d1,c4,c7,h8,H0⟩:=gH HU.out.2.1 hj
   have H8:=H4.last
   have ca:=H8.1.nat a0 (by rw[oS];exact h8)
   have fa:=H8.1.frozen a0
   have a2:(a0:Int) < k:=by omega
   have c5:(nats (kmpN k c v q)).length=k:=by rw[yB,oS]
   have d0:cn4<=9223372036854775807:=by unfold maxLen at h9;omega
   have d6:=Kh H4;have b8:=Kh H0;have HS:=Kh hs;have b9:=Kh b1;have e4:=Kh h2
   have e0:(c:Int)+q < c+j+1:=by omega
   clear h5 b6 b5 h4 H4 H8 H0 hs b1 h7 h9 h2 a4
   obtain⟨w6,H6⟩:∃ w6,w6=w5.setCell ⟨g4,a0,none⟩ (.int .i64 ((c:Int)+j+1)):=⟨_,rfl⟩
   have H5:Hid (BB W0 w6 bb k (t ++ xN k c v (j+1)) (gs ++ [g4]) (some ⟨h6,0,none⟩) cn4):=Kh (by
    have:=d6.out.putLast h8 (c+j+1)
    have ea:v.getD j 0=a0:=by rw[HV.out];exact b8.out
    have er:(kmpN k c v q).set a0 (c+j+1)=kmpN k c v j:=by
     rw[HQ.out,<- ea];exact row_next (by omega) (by rw[H2.out];exact hj)
    rw[er,List.append_assoc,<- mZ]at this
    rw[H6,show ((c:Int)+j+1)=((c+j+1:Nat):Int) by omega]
    exact this)
   have h3:=H5.out.row (c+q) (by rw[List.length_append,xT,HC.out];omega)
   rw[yC (by rw[b9.out];omega),HC.out,gT (by omega),<- HC.out,<- HS.out]at h3
   have cs6:=h3.1.nat a0 (by rw[oS];exact h8)
   have enx:(kmpN k c v q).getD a0 0=c+pW v (j+1):=by
    have ea:v.getD j 0=a0:=by rw[HV.out];exact b8.out
    rw[kmpN_get h8,backK_next (by omega) (by rw[H2.out];exact hj),<- HQ.out,ea]
   rw[enx]at cs6
   obtain⟨c60,c61,f61⟩:=H5.out.cells
   rw[List.length_append,xT,<- HC.out]at c61
   obtain⟨d7,cap6,e6,e6',e3,c6,b3⟩:=H5.out.hd (by rw[List.length_append,xT];omega)
   simp only[Option.some.injEq,Addr.mk.injEq,and_true]at e6
   have chd6:=b3 (c+q) (by rw[List.length_append,xT,<- HC.out];omega)
   have e1:(gs ++ [g4]).getD (c+q) 0=s:=by rw[yC (by rw[b9.out];omega),<- HS.out]
   rw[e1]at chd6
   subst e6
   replace chd6:w6.cell? ⟨h6,c+q,none⟩=some (.slice (some ⟨s,0,none⟩) k k):=chd6
   obtain⟨B,hB⟩:∃ B,B=c+pW v (j+1):=⟨_,rfl⟩
   rw[<- hB]at cs6
   have d5:=Kh hB
   have d2:=Kh H6
   clear h3 enx b3 c6 H6 e6' hB e1
   go_wp2_with fail
   rw[<- d2.out]
   clear b4 c0 c1 f1 chd ca fa
   go_region
   all_goals (try go_frame)
   all_goals go_wp2
   all_goals
    go_roundg (u.size - 1 - j)
    case measure=>have:=a3.out;omega
    case rel=>exact⟨j+1,_,_,_,by have:=a3.out;omega,by go_num,by omega,by rw[d5.out],H5.out.grow (zL _ none)⟩
  ·have H1:j=u.size:=by have:=a3.out;omega
   have c9:¬ (j:Int) < u.size:=by omega
   obtain⟨c0,c1,f1⟩:=h2.cells
   rw[h1.out]at c1
   obtain⟨h6,cap4,rfl,rfl,H9,h9,h7⟩:=h2.hd (by rw[h1.out];omega)
   have chd:=h7 (c+q) (by rw[h1.out];omega)
   rw[h1.out]at H9
   obtain⟨s,hs⟩:∃ s,s=gs.getD (c+q) 0:=⟨_,rfl⟩
   rw[<- hs]at chd
   replace chd:wr.cell? ⟨h6,c+q,none⟩=some (.slice (some ⟨s,0,none⟩) k k):=chd
   have d0:cn<=9223372036854775807:=by unfold maxLen at h9;omega
   have HB:=Kh h2;have HS:=Kh hs;have d4:=Kh H1
   clear h2 h7 h9 hs H1
   go_wp2
   go_ret
   have a8:j=v.length:=by rw[d4.out,H2.out]
   refine⟨gs,some ⟨h6,0,none⟩,cn,?_,?_⟩
   ·rw[<- a8,<- HQ.out,<- HC.out,<- HS.out];rfl
   ·rw[<- a8,<- HC.out];exact HB.out
def sufN (k c:Nat) (u:List Nat):List (List Nat):=xN k c u (u.length+1)
theorem sufN_nil (k c:Nat):sufN k c []=[List.replicate k c]:=by
 have e:kmpN k c [] 0=List.replicate k c:=by
  refine List.ext_getElem (by simp[kmpN]) fun i h1 h2=>?_
  simp only[kmpN,List.getElem_map,List.getElem_range,List.getElem_replicate]
  rw[aK (.inl rfl)];rfl
 show xN k c [] 1=_
 rw[<- e];rfl
set_option maxRecDepth 100000 in
set_option maxHeartbeats 800000 in
theorem bsuffix_any (W0 W:World) (bb k:Nat) (t:List (List Nat)) (gs:List Nat) (sn:Option Addr) (cn:Nat) (u:ByteArray) (h:BB W0 W bb k t gs sn cn) (ht:t.length<=500) (hk1:1<=k) (hk6:k<=6) (hu:zP u (k:Int)=true) (hl:u.size<=64) :
  Calls Try.prog 109 #[.pointer (some ⟨bb,0,none⟩),.string u] W (qAF W0 bb k (t ++ sufN k t.length (zI u))):=by
 obtain⟨c0,c1,f1⟩:=h.cells
 have H:=Kh h
 obtain⟨c,hc⟩:∃ c,c=t.length:=⟨_,rfl⟩
 rw[<- hc]at c1 ht
 have HC:=Kh hc
 clear h
 by_cases h0:u.size=0
 ·have H4:u=⟨#[]⟩:=by
   have:u.data=#[]:=Array.size_eq_zero_iff.1 h0
   cases u;simp_all
  subst H4
  have H0:zI (⟨#[]⟩:ByteArray)=[]:=rfl
  have H8:=Kh H0
  clear hu hl h0 H0 hc
  go_enter Try.func109,Try.ntmps109
  go_wp2_with fail
  refine(qB W0 W bb k t gs sn cn c H.out hk1 hk6 (by have:=HC.out;omega)).mono ?_
  rintro e w1 ⟨g,sn1,cn1,rfl,h1⟩
  go_wp2
  refine bodyPost_ret (v:=.tuple #[]) (by simp[results,Try.results109,go_sem]) rfl ⟨gs ++ [g],sn1,cn1,rfl,?_⟩
  rw[H8.out,sufN_nil,<- HC.out];exact h1
 ·have a0:u.toList.isEmpty=false:=by
   rw[ByteArray.toList_eq,List.isEmpty_eq_false_iff]
   intro e
   have:=congrArg List.length e
   rw[Array.length_toList]at this
   exact h0 this
  have h7:=Kh (jU W0 W bb k t gs sn cn u H.out (by omega) hk1 hk6 hu (by omega) hl)
  obtain⟨v,hv⟩:∃ v,v=zI u:=⟨_,rfl⟩
  have h8:v.length=u.size:=by rw[hv,yH]
  rw[<- hv]at h7 ⊢
  have HV:=Kh hv;have H7:=Kh h8
  have h5:0 < v.length:=by omega
  clear hu hc hv h8 h0 c0 c1 f1
  go_enter Try.func109,Try.ntmps109
  go_wp2_with fail
  refine h7.out.mono ?_
  rintro e w1 ⟨gs1,sn1,cn1,rfl,h1⟩
  clear h7 H
  rw[<- HC.out]at h1 ⊢
  have h9:(t ++ xN k c v v.length).length=c+v.length:=by rw[List.length_append,xT,HC.out]
  have H3:=eH h5 (Nat.le_refl v.length)
  obtain⟨q,hq⟩:∃ q,q=pW v v.length:=⟨_,rfl⟩
  rw[<- hq]at H3 ⊢
  have HQ:=Kh hq;have h4:=Kh h9
  obtain⟨s,hs⟩:∃ s,s=gs1.getD (c+q) 0:=⟨_,rfl⟩
  have HS:=Kh hs
  rw[<- hs]
  clear hq h9 hs
  go_wp2_with fail
  refine(qB W0 w1 bb k _ gs1 sn1 cn1 0 h1 hk1 hk6 (by rw[h4.out,H7.out];omega)).mono ?_
  rintro e w2 ⟨g,sn2,cn2,rfl,h3⟩
  have H5:gs1.length=c+v.length:=by rw[h1.len,h4.out]
  have e1:(gs1 ++ [g]).getD (c+q) 0=s:=by rw[yC (by omega),<- HS.out]
  have h2:=h3.row (c+q) (by rw[List.length_append,h4.out];omega)
  have e2:((t ++ xN k c v v.length) ++ [List.replicate k 0]).getD (c+q) []=kmpN k c v q:=by
   rw[yC (by rw[h4.out];omega),HC.out,gT H3]
  rw[e1,e2]at h2
  obtain⟨H6,H2,H1⟩:=aY h3.last.1 h3.last.2 h2.1 h2.2
  have h6:=h3.setLast h2.2 H1 H2
  rw[HQ.out,bY h5,List.append_assoc,<- mZ]at h6
  rw[HQ.out,bY h5]at H6
  have H9:=Kh h6
  clear H2 H1 h2 e1 e2 H5 h1 h3 h6
  go_wp2
  refine bodyPost_ret (v:=.tuple #[]) (by simp[results,Try.results109,go_sem]) rfl ⟨gs1 ++ [g],sn2,cn2,rfl,by unfold sufN;rw[<- HC.out];exact H9.out⟩
def midN (k:Nat):Nat->List (List Nat)->List (List Nat)
 | _,[]=>[]
 | c,u :: us=>xN k c u u.length ++ midN k (c+u.length) us
theorem uF (u:List Nat) (us:List (List Nat)):yE (u :: us)=u.length+yE us:=by simp[yE]
theorem lenSum_append (us vs:List (List Nat)):yE (us ++ vs)=yE us+yE vs:=by simp[yE]
theorem rV (k:Nat):∀ (us:List (List Nat)) (c:Nat),(midN k c us).length=yE us
 | [],c=>rfl
 | u :: us,c=>by rw[midN,List.length_append,xT,rV k us,uF]
theorem dP (k:Nat) (u:List Nat):∀ (us:List (List Nat)) (c:Nat),midN k c (us ++ [u])=midN k c us ++ xN k (c+yE us) u u.length
 | [],c=>by simp[midN,yE]
 | v :: us,c=>by
  rw[List.cons_append,midN,midN,dP k u us,uF,List.append_assoc,Nat.add_assoc]
theorem kmpRow_map (k c:Nat) (u:List Nat) (j:Nat):zl (kmpN k c u j)=hJ k c u j:=by simp[zl,kmpN,hJ]
theorem pX (k c:Nat) (u:List Nat) (m:Nat):(xN k c u m).map zl=yS k c u m:=by
 simp only[xN,yS,List.map_map]
 exact List.map_congr_left fun j _=>kmpRow_map k c u j
theorem bU (k:Nat) (v:List Nat):∀ (us:List (List Nat)) (c:Nat),(midN k c us ++ sufN k (c+yE us) v).map zl=xC k c (us ++ [v])
 | [],c=>by
  show (sufN k (c+0) v).map zl=_
  rw[sufN,pX];rfl
 | u :: us,c=>by
  have:=bU k v us (c+u.length)
  rw[List.map_append]at this
  rw[midN,List.append_assoc,List.map_append,pX,uF,<- Nat.add_assoc,List.map_append,this]
  cases us with
  | nil=>rfl
  | cons w us=>rfl
theorem kT (k:Nat) (b:List Nat) (m:Nat):(sE k b m).map zl=vT k b m:=by
 simp only[sE,vT,List.map_map]
 refine List.map_congr_left fun j _=>?_
 simp[preN,dD,zl]
def xJ (k:Nat) (bs:List (List Nat)):List (List Nat):=match bs with
 | []=>[]
 | [b]=>[List.replicate k 0] ++ sE k b b.length ++ [List.replicate k 0]
 | b :: us=>[List.replicate k 0] ++ sE k b b.length ++ midN k (1+b.length) us.dropLast ++ sufN k (1+b.length+yE us.dropLast) (us.getLastD [])
theorem qAH (k:Nat):zl (List.replicate k 0)=List.replicate k 0:=by simp[zl]
theorem bD (k:Nat):∀ (bs:List (List Nat)),(xJ k bs).map zl=vV k bs
 | []=>rfl
 | [b]=>by
  simp only[xJ,vV,xC,List.map_append,kT,List.map_cons,List.map_nil,qAH]
  simp
 | b :: c :: us=>by
  have h:(c :: us)=(c :: us).dropLast ++ [(c :: us).getLastD []]:=by
   rw[List.getLastD_eq_getLast?,List.getLast?_eq_some_getLast (List.cons_ne_nil c us)]
   exact(List.dropLast_concat_getLast (List.cons_ne_nil c us)).symm
  have ht:=bU k ((c :: us).getLastD []) (c :: us).dropLast (1+b.length)
  rw[<- h]at ht
  simp only[xJ,vV,List.append_assoc]
  rw[List.map_append,List.map_append,ht,kT]
  simp[qAH]
theorem qM (k:Nat) (b:List Nat) (us:List (List Nat)):(xJ k (b :: us)).length=2+b.length+yE us:=by
 have:=congrArg List.length (bD k (b :: us))
 rwa [List.length_map,sU]at this
theorem uO (bs:List ByteArray):uP bs=yE (bs.map zI):=by
 simp only[uP,yE,List.map_map]
 congr 1
 exact List.map_congr_left fun s _=>(yH s).symm
theorem sW (us:List (List Nat)) (i:Nat):yE (us.take i)<=yE us:=by
 have h:us.take i ++ us.drop i=us:=List.take_append_drop i us
 have:=lenSum_append (us.take i) (us.drop i)
 rw[h]at this
 omega
theorem rD {n:Nat} {letters:Int}:∀ {bs:List ByteArray} {i:Nat},wB n letters i bs=true->∀ j (h:j < bs.length),wU n letters (i+j) bs[j]=true
 | [],_,_,j,h=>by simp at h
 | u :: us,i,h,j,hj=>by
  rw[wB,Bool.and_eq_true]at h
  cases j with
  | zero=>exact h.1
  | succ j =>
   have:=rD h.2 j (by simpa using hj)
   rw[show i+(j+1)=i+1+j by omega]
   simpa using this
theorem lC {n i:Nat} {letters:Int} {u:ByteArray} (h:wU n letters i u=true):zP u letters=true/\(0 < i->i+1 < n->0 < u.size):=by
 rw[wU,Bool.and_eq_true,Bool.not_eq_true',Bool.and_eq_false_iff]at h
 refine⟨h.1,fun h0 h1=>?_⟩
 rcases h.2 with h2|h2
 ·rw[decide_eq_false_iff_not]at h2;exact absurd ⟨h0,h1⟩ h2
 ·rw[ByteArray.toList_eq,List.isEmpty_eq_false_iff]at h2
  have:=List.length_pos_iff.2 h2
  rwa [Array.length_toList]at this
theorem qAU {bs:List ByteArray} {letters:Int} (h:zZ bs letters=0):1<=letters/\letters<=6/\0 < bs.length/\bs.length<=8/\uP bs<=64/\(∀ i (hi:i < bs.length),zP bs[i] letters=true)/\∀ i (hi:i < bs.length),0 < i->i+1 < bs.length->0 < bs[i].size:=by
 obtain⟨h1,h2,h3,h4,h5,h6⟩:=xF h
 refine⟨h1,h2,h5,h3,h4,fun i hi=>?_,fun i hi h0 h1'=>?_⟩
 ·have:=rD h6 i hi
  exact(lC this).1
 ·have:=rD h6 i hi
  rw[Nat.zero_add]at this
  exact(lC this).2 h0 h1'
theorem qN {k:Nat} {bs:List ByteArray} (h0:0 < bs.length) (ht:uP bs<=64):2<=(xJ k (bs.map zI)).length/\(xJ k (bs.map zI)).length<=66:=by
 match bs,h0 with
 | b :: rest,_ =>
  rw[uO,List.map_cons,uF]at ht
  rw[List.map_cons,qM]
  omega
theorem total_get {bs:List ByteArray} {i:Nat} (hi:i < bs.length):bs[i].size<=uP bs:=by
 have h:=iH bs i hi
 have h2:uP (bs.take (i+1))<=uP bs:=by
  rw[uO,uO,List.map_take]
  exact sW _ _
 omega
end Go.Proofs.Ytjfdomfendbhfaa
