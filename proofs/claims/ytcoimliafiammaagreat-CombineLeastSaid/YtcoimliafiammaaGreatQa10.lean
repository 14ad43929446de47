/- Part 10 of the proof. -/
import Derived.Test.YtcoimliafiammaaGreatQa9
import Derived.Deep.OwnRows
import Derived.Deep.DeepCutAuto
import Derived.Deep.CutBlock
set_option linter.unusedVariables false
set_option linter.unusedSimpArgs false
set_option maxRecDepth 100000
set_option maxHeartbeats 16000000
namespace Go.Proofs.YtcoimliafiammaaGreat
open Go.RowKit
def kmpN (k c:Nat)(u:List Nat)(j:Nat):List Nat:=(List.range k).map fun a=>c+kmp u (u.take j++[a])
def wX (k c:Nat)(u:List Nat)(m:Nat):List (List Nat):=(List.range m).map (kmpN k c u)
theorem kY (k c:Nat)(u:List Nat)(j:Nat):(kmpN k c u j).length=k:=by simp[kmpN]
theorem qWT {k c:Nat}{u:List Nat}{j a:Nat}(h:a<k):(kmpN k c u j).getD a 0=c+kmp u (u.take j++[a]):=xO _ h _
theorem vS (k c:Nat)(u:List Nat)(m:Nat):(wX k c u m).length=m:=by simp[wX]
theorem gS (k c:Nat)(u:List Nat)(m:Nat):wX k c u (m+1)=wX k c u m++[kmpN k c u m]:=by simp[wX,List.range_succ]
theorem qGS {k c:Nat}{u:List Nat}{m j:Nat}(h:j<m):(wX k c u m).getD j []=kmpN k c u j:=xO _ h _
theorem qUR {k c:Nat}{u:List Nat}(hu:u≠[]):(List.replicate k c).set (u.getD 0 0) (c+1)=kmpN k c u 0:=by
 have h0:0<u.length:=List.length_pos_iff.2 hu;refine List.ext_getElem (by simp[kmpN]) fun i h1 h2=>?_;rw[List.getElem_set];simp only[kmpN,List.getElem_map,List.getElem_range,List.getElem_replicate];by_cases e:u.getD 0 0=i
 ·rw[if_pos e,<-e,qYM h0]
 rw[if_neg e,qKH (.inr e)];rfl
theorem qUS {k c:Nat}{u:List Nat}{i:Nat}(h0:0<i)(h:i<u.length):(kmpN k c u (kD u i)).set (u.getD i 0) (c+i+1)=kmpN k c u i:=by
 refine List.ext_getElem (by simp[kmpN]) fun j h1 h2=>?_;rw[List.getElem_set];simp only[kmpN,List.getElem_map,List.getElem_range];by_cases e:u.getD i 0=j
 ·rw[if_pos e,<-e,qYM h];omega
 rw[if_neg e,qKI h0 (by omega) (.inr e)]
theorem qJK {k c:Nat}{u:List Nat}(h0:0<u.length):kmpN k c u (kD u u.length)=kmpN k c u u.length:=by
 refine List.map_congr_left fun a _=>?_;rw[qKI h0 (Nat.le_refl _) (.inl rfl)]
theorem qAY {k:Nat}{t:List (List Nat)}{u:List Nat}{m j:Nat}(h:j<m):(t++wX k t.length u m).getD (t.length+j) []=kmpN k t.length u j:=by
 rw[wW,qGS h]
theorem qKV {W : World}{g s k : Nat}{r q : List Nat}(hg : Arr W g 3 (nats q))(hq : q.length = k)(hs : Arr W s 3 (nats r))(hr : r.length = k): (Builtin.copy_ #[22, 22] 3 #[.slice (some ⟨g, 0, none⟩) k k, .slice (some ⟨s, 0, none⟩) k k]).run Tryz.prog W = .ok (.int .i64 (k : Int)) (W.setCells g 0 (nats r)) ∧ Arr (W.setCells g 0 (nats r)) g 3 (nats r) ∧ W.grownBy (W.setCells g 0 (nats r)) (some g) := by
 have hl : (nats r).length = k := by rw [zV, hr]
 refine ⟨?_, ?_, ?_⟩
 ·have := run_copy_cells (P := Tryz.prog) W 22 22 3 3 g 0 k k ⟨s, 0, none⟩ k k (nats r) Tryz.underlying22 (by kernel_rfl) (by rw [hl]; simp [Nat.min_def])
   (fun j u hj => by
    obtain ⟨hj1, hj2⟩ := List.getElem?_eq_some_iff.1 hj
    have := hs.cell j hj1
    rw [hj2] at this
    have e : (⟨s, 0, none⟩ : Addr).add j = ⟨s, j, none⟩ := by
     unfold Addr.add; split <;> simp_all
    rw [e]; exact this)
   (fun j hj => by rw [Nat.zero_add, hg.cell j (by rw [zV] at *; omega)]; rfl) (fun j _ => hg.frozen _) (fun v hv => by
    obtain ⟨x, _, rfl⟩ := List.mem_map.1 hv; rfl)
  rw [this, hl]; rfl
 ·have := hg.setCells (nats r) 0 (by rw [Nat.zero_add, hl, zV]; omega)
  rw [List.take_zero, List.nil_append, Nat.zero_add, List.drop_eq_nil_of_le (by rw [hl, zV]; omega), List.append_nil] at this
  exact this
 ·have key : ∀ (vs : List Value) (o : Nat) (W : World), W.grownBy (W.setCells g o vs) (some g) := fun vs => by
   induction vs with
   | nil => intro o W; exact zH _ _
   | cons v vs ih => intro o W; rw [World.setCells]; exact zC (zD W ⟨g, o, none⟩ v) (ih (o + 1) _)
  exact key _ _ _
theorem BB.setLast {W0 W W':World}{bb k:Nat}{t:List (List Nat)}{gs:List Nat}{sn:Option Addr}{cn:Nat}{r r':List Nat}{g:Nat}(h:BB W0 W bb k (t++[r]) (gs++[g]) sn cn)(hr:r'.length=k)(hg:W.grownBy W' (some g))(ha:Arr W' g 3 (nats r')):BB W0 W' bb k (t++[r']) (gs++[g]) sn cn:=by
 have e:(gs++[g]).getD t.length 0=g:=mF h.lastlen.symm;have:=h.set (i:=t.length) (by simp) hr (by rw[e];exact hg) (by rw[e];exact ha)
 rwa [qJH rfl]at this
def qYA (W0:World)(bb k:Nat)(t:List (List Nat))(u:List Nat)(e:Ending)(W':World):Prop :=
 ∃gs sn cn,e=.returned (.slice (some ⟨gs.getD (t.length+kD u u.length) 0,0,none⟩) k k)/\BB W0 W' bb k (t++wX k t.length u u.length) gs sn cn
theorem gI {u:ByteArray}{k i:Nat}(h:∀i (hi:i<u.size),97<=u[i].toNat/\u[i].toNat-97<k)(hi:i<u.size):∃b a:Nat,(u[i].toNat:Int)=(b:Int)/\IntKind.u8.wrap ((b:Int)-97)=(a:Int)/\((b:Int)-97) % 256=(a:Int)/\a<k/\(zI u).getD i 0=a:=by
 have hb:=h i hi;have h0:u[i].toNat<256:=u[i].toNat_lt;exact⟨u[i].toNat,u[i].toNat-97,rfl,qOR hb.1 h0,by omega,hb.2,nK hi⟩
theorem bD (W0 W:World)(bb k:Nat)(t:List (List Nat))(gs:List Nat)(sn:Option Addr)(cn:Nat)(u:ByteArray)(h:BB W0 W bb k t gs sn cn)(ht:t.length<=500)(a6:1<=k)(a8:k<=6)(hu:zU u (k:Int)=true)(h0:0<u.size)(hl:u.size<=64):Calls Tryz.prog 82 #[.pointer (some ⟨bb,0,none⟩),.string u] W (qYA W0 bb k t (zI u)):=by
 obtain⟨c0,c1,f1⟩:=h.cells;have H:=Kh h;have HU:=Kh (uI hu);obtain⟨v,hv⟩:=Nm (zI u);have H3:v.length=u.size:=by rw[hv,yM]
 have a5:v≠[]:=by intro e;rw[e]at H3;simp at H3;omega
 rw[<-hv];obtain⟨HV,d5,H2⟩:=K3 hv a5 H3;obtain⟨c,hc⟩:=Nm t.length;rw[<-hc]at c1 ht;have HC:=Kh hc;have e3:(0:Int)<u.size:=by omega
 clear h hu hv H3 a5 hc;go_enter Tryz.func82,Tryz.ntmps82;go_wp2_with fail;refine(nP W0 W bb k t gs sn cn c H.out a6 a8 (by have:=HC.out;omega)).mono ?_;rintro e w1 ⟨g,sn1,cn1,rfl,a1⟩;obtain⟨b0,a0,d3,c6,c9,h8,H0⟩:=gI HU.out.2.1 h0;have hr:=a1.last;have ca:=hr.1.nat a0 (by simp;omega);have fa:=hr.1.frozen a0;have a2:(a0:Int)<k:=by omega
 have c7:(nats (List.replicate k c)).length=k:=by rw[zV,List.length_replicate]
 have c5:Hid (BB W0 (w1.setCell ⟨g,a0,none⟩ (.int .i64 ((c+1:Nat):Int))) bb k (t++wX k c v 1) (gs++[g]) sn1 cn1):=Kh (by
  have:=a1.putLast h8 (c+1)
  rw[show wX k c v 1=[kmpN k c v 0] by rfl,<-qUR d5.out,HV.out,H0];exact this)
 clear hr a1 H0 c0 c1 f1 H;go_wp2_with fail;obtain⟨w2,H7⟩:=Nm (w1.setCell ⟨g,a0,none⟩ (.int .i64 ((c:Int)+1)))
 have c4:Hid (BB W0 w2 bb k (t++wX k c v 1) (gs++[g]) sn1 cn1):=Kh (by
  rw[H7,show ((c:Int)+1)=((c+1:Nat):Int) by omega];exact c5.out)
 rw[<-H7];clear H7 ca fa c5
 go_loopg [7,8,9] (u.size-1) (fun gh a7 i a9 wr=>∃(j:Nat) (gs:List Nat) (sn:Option Addr) (cn:Nat),gh+j=u.size/\i=.int .i64 j/\1<=j/\a7=.int .i64 ((c+kD v j:Nat):Int)/\BB W0 wr bb k (t++wX k c v j) gs sn cn)
 case atStart=>exact⟨1,_,_,_,by omega,rfl,Nat.le_refl _,by rw[qTL (by rw[H2.out];omega)];rfl,c4.out⟩
 clear c4;obtain⟨j,gs,sn,cn,b4,rfl,e0,rfl,h2⟩:=hrel;have a3:=Kh b4;have d0:j<=u.size:=by omega
 clear b4;have b1:(t++wX k c v j).length=c+j:=by rw[List.length_append,vS,HC.out]
 have b9:kD v j<j:=qCN (by omega) (by rw[H2.out];exact d0);obtain⟨q,hq⟩:=Nm (kD v j);rw[<-hq]at b9⊢;have HQ:=Kh hq;have h1:=Kh b1;clear hq b1;by_cases hj:j<u.size
 ·have d1:(j:Int)<u.size:=by omega
  go_wp2_with fail;refine(nP W0 wr bb k _ gs sn cn c h2 a6 a8 (by rw[h1.out];omega)).mono ?_;rintro e w4 ⟨g4,sn4,cn4,rfl,h4⟩;obtain⟨c0,c1,f1⟩:=h4.cells;rw[List.length_append,h1.out,List.length_singleton]at c1;obtain⟨h6,cap4,rfl,rfl,H9,h9,h7⟩:=h4.hd (by rw[List.length_append,List.length_singleton];omega);rw[List.length_append,h1.out,List.length_singleton]at H9 h7;have h5:=h4.row (c+q) (by rw[List.length_append,h1.out];omega);have b3:gs.length=c+j:=by rw[h2.len,h1.out]
  have e1:(gs++[g4]).getD (c+q) 0=gs.getD (c+q) 0:=yN (by omega) 0
  have e2:((t++wX k c v j)++[List.replicate k c]).getD (c+q) []=kmpN k c v q:=by
   rw[yN (by rw[h1.out];omega),HC.out,qAY b9]
  rw[e1,e2]at h5;have chd:=h7 (c+q) (by omega);rw[e1]at chd;obtain⟨s,hs⟩:=Nm (gs.getD (c+q) 0);rw[<-hs]at h5 chd;replace chd:w4.cell? ⟨h6,c+q,none⟩=some (.slice (some ⟨s,0,none⟩) k k):=chd;obtain⟨b6,b8,b7⟩:=qKV h4.last.1 h4.last.2 h5.1 h5.2;have H4:=h4.setLast h5.2 b7 b8;obtain⟨w5,a4⟩:=Nm (w4.setCells g4 0 (nats (kmpN k c v q)));rw[<-a4]at b6 H4;obtain⟨b0,a0,d3,c6,c9,h8,H0⟩:=gI HU.out.2.1 hj;have H8:=H4.last;have ca:=H8.1.nat a0 (by rw[kY];exact h8);have fa:=H8.1.frozen a0;have a2:(a0:Int)<k:=(by omega);have c7:(nats (kmpN k c v q)).length=k:=by rw[zV,kY]
  have d2:cn4<=9223372036854775807:=by unfold maxLen at h9;omega
  obtain⟨d8,c2,HS,c3,e7⟩:=K5 H4 H0 hs b3 h2;have e4:(c:Int)+q<c+j+1:=(by omega);clear h5 b8 b7 h4 H4 H8 H0 hs b3 h7 h9 h2 a4;obtain⟨w6,H6⟩:=Nm (w5.setCell ⟨g4,a0,none⟩ (.int .i64 ((c:Int)+j+1)))
  have H5:Hid (BB W0 w6 bb k (t++wX k c v (j+1)) (gs++[g4]) (some ⟨h6,0,none⟩) cn4):=Kh (by
   have:=d8.out.putLast h8 (c+j+1);have ea:v.getD j 0=a0:=by rw[HV.out];exact c2.out
   have er:(kmpN k c v q).set a0 (c+j+1)=kmpN k c v j:=by
    rw[HQ.out,<-ea];exact qUS (by omega) (by rw[H2.out];exact hj)
   rw[er,List.append_assoc,<-gS]at this;rw[H6,show ((c:Int)+j+1)=((c+j+1:Nat):Int) by omega]
   exact this)
  have h3:=H5.out.row (c+q) (by rw[List.length_append,vS,HC.out];omega);rw[yN (by rw[c3.out];omega),HC.out,qAY (by omega),<-HC.out,<-HS.out]at h3;have cs6:=h3.1.nat a0 (by rw[kY];exact h8)
  have enx:(kmpN k c v q).getD a0 0=c+kD v (j+1):=by
   have ea:v.getD j 0=a0:=by rw[HV.out];exact c2.out
   rw[qWT h8,qOD (by omega) (by rw[H2.out];exact hj),<-HQ.out,ea]
  rw[enx]at cs6;obtain⟨c60,c61,f61⟩:=H5.out.cells;rw[List.length_append,vS,<-HC.out]at c61;obtain⟨d9,cap6,e6,e6',e5,c8,b5⟩:=H5.out.hd (by rw[List.length_append,vS];omega);simp only[Option.some.injEq,Addr.mk.injEq,and_true]at e6;have chd6:=b5 (c+q) (by rw[List.length_append,vS,<-HC.out];omega);have e1:(gs++[g4]).getD (c+q) 0=s:=by rw[yN (by rw[c3.out];omega),<-HS.out]
  rw[e1]at chd6;subst e6;replace chd6:w6.cell? ⟨h6,c+q,none⟩=some (.slice (some ⟨s,0,none⟩) k k):=chd6;obtain⟨B,hB⟩:=Nm (c+kD v (j+1));rw[<-hB]at cs6;have d7:=Kh hB;have d4:=Kh H6;clear h3 enx b5 c8 H6 e6' hB e1;go_wp2_with fail;rw[<-d4.out];clear b6 c0 c1 f1 chd ca fa
  go_region
  all_goals (try go_frame)
  all_goals go_wp2
  all_goals
   go_roundg (u.size-1-j)
   case measure=>have:=a3.out;omega
   exact⟨j+1,_,_,_,by have:=a3.out;omega,by go_num,by omega,by rw[d7.out],H5.out.grow (zN _ none)⟩
 have H1:j=u.size:=by have:=a3.out;omega
 have d1:¬(j:Int)<u.size:=(by omega);obtain⟨c0,c1,f1⟩:=h2.cells;rw[h1.out]at c1;obtain⟨h6,cap4,rfl,rfl,H9,h9,h7⟩:=h2.hd (by rw[h1.out];omega);have chd:=h7 (c+q) (by rw[h1.out];omega);rw[h1.out]at H9;obtain⟨s,hs⟩:=Nm (gs.getD (c+q) 0);rw[<-hs]at chd;replace chd:wr.cell? ⟨h6,c+q,none⟩=some (.slice (some ⟨s,0,none⟩) k k):=chd;have d2:cn<=9223372036854775807:=by unfold maxLen at h9;omega
 obtain⟨HB,HS,d6⟩:=K3 h2 hs H1;clear h2 h7 h9 hs H1;go_wp2;go_ret;have b2:j=v.length:=by rw[d6.out,H2.out]
 refine⟨gs,some ⟨h6,0,none⟩,cn,?_,?_⟩
 ·rw[<-b2,<-HQ.out,<-HC.out,<-HS.out];rfl
 rw[<-b2,<-HC.out];exact HB.out
def sufN (k c:Nat)(u:List Nat):List (List Nat):=wX k c u (u.length+1)
theorem qUJ (k c:Nat):sufN k c []=[List.replicate k c]:=by
 have e:kmpN k c [] 0=List.replicate k c:=by
  refine List.ext_getElem (by simp[kmpN]) fun i h1 h2=>?_;simp only[kmpN,List.getElem_map,List.getElem_range,List.getElem_replicate];rw[qKH (.inl rfl)];rfl
 show wX k c [] 1=_;rw[<-e];rfl
theorem qIP (W0 W:World)(bb k:Nat)(t:List (List Nat))(gs:List Nat)(sn:Option Addr)(cn:Nat)(u:ByteArray)(h:BB W0 W bb k t gs sn cn)(ht:t.length<=500)(a8:1<=k)(a9:k<=6)(hu:zU u (k:Int)=true)(hl:u.size<=64):Calls Tryz.prog 83 #[.pointer (some ⟨bb,0,none⟩),.string u] W (qLJ W0 bb k (t++sufN k t.length (zI u))):=by
 obtain⟨c0,c1,f1⟩:=h.cells;have H:=Kh h;obtain⟨c,hc⟩:=Nm t.length;rw[<-hc]at c1 ht;have HC:=Kh hc;clear h;by_cases h0:u.size=0
 ·have H4:u=⟨#[]⟩:=by
   have:u.data=#[]:=Array.size_eq_zero_iff.1 h0;cases u;simp_all
  subst H4;have H0:zI (⟨#[]⟩:ByteArray)=[]:=rfl;have H8:=Kh H0;clear hu hl h0 H0 hc;go_enter Tryz.func83,Tryz.ntmps83;go_wp2_with fail;refine(nP W0 W bb k t gs sn cn c H.out a8 a9 (by have:=HC.out;omega)).mono ?_;rintro e w1 ⟨g,sn1,cn1,rfl,h1⟩;go_wp2;refine bodyPost_ret (v:=.tuple #[]) (by simp[results,Tryz.results83,go_sem]) rfl ⟨gs++[g],sn1,cn1,rfl,?_⟩;rw[H8.out,qUJ,<-HC.out];exact h1
 have a0:u.toList.isEmpty=false:=by
  rw[ByteArray.toList_eq,List.isEmpty_eq_false_iff];intro e;have:=congrArg List.length e;rw[Array.length_toList]at this;exact h0 this
 have h7:=Kh (bD W0 W bb k t gs sn cn u H.out (by omega) a8 a9 hu (by omega) hl);obtain⟨v,hv⟩:=Nm (zI u);have h8:v.length=u.size:=by rw[hv,yM]
 rw[<-hv]at h7⊢;have HV:=Kh hv;have H7:=Kh h8;have h5:0<v.length:=by omega
 clear hu hc hv h8 h0 c0 c1 f1;go_enter Tryz.func83,Tryz.ntmps83;go_wp2_with fail;refine h7.out.mono ?_;rintro e w1 ⟨gs1,sn1,cn1,rfl,h1⟩;clear h7 H;rw[<-HC.out]at h1⊢;have h9:(t++wX k c v v.length).length=c+v.length:=by rw[List.length_append,vS,HC.out]
 have H3:=qCN h5 (Nat.le_refl v.length);obtain⟨q,hq⟩:=Nm (kD v v.length);rw[<-hq]at H3⊢;have HQ:=Kh hq;have h4:=Kh h9;obtain⟨s,hs⟩:=Nm (gs1.getD (c+q) 0);have HS:=Kh hs;rw[<-hs];clear hq h9 hs;go_wp2_with fail;refine(nP W0 w1 bb k _ gs1 sn1 cn1 0 h1 a8 a9 (by rw[h4.out,H7.out];omega)).mono ?_;rintro e w2 ⟨g,sn2,cn2,rfl,h3⟩;have H5:gs1.length=c+v.length:=by rw[h1.len,h4.out]
 have e1:(gs1++[g]).getD (c+q) 0=s:=by rw[yN (by omega),<-HS.out]
 have h2:=h3.row (c+q) (by rw[List.length_append,h4.out];omega)
 have e2:((t++wX k c v v.length)++[List.replicate k 0]).getD (c+q) []=kmpN k c v q:=by
  rw[yN (by rw[h4.out];omega),HC.out,qAY H3]
 rw[e1,e2]at h2;obtain⟨H6,H2,H1⟩:=qKV h3.last.1 h3.last.2 h2.1 h2.2;have h6:=h3.setLast h2.2 H1 H2;rw[HQ.out,qJK h5,List.append_assoc,<-gS]at h6;rw[HQ.out,qJK h5]at H6;have H9:=Kh h6;clear H2 H1 h2 e1 e2 H5 h1 h3 h6;go_wp2;refine bodyPost_ret (v:=.tuple #[]) (by simp[results,Tryz.results83,go_sem]) rfl ⟨gs1++[g],sn2,cn2,rfl,by unfold sufN;rw[<-HC.out];exact H9.out⟩
def midN (k:Nat):Nat->List (List Nat)->List (List Nat)
 | _,[]=>[]
 | c,u::us=>wX k c u u.length++midN k (c+u.length) us
theorem uM (u:List Nat)(us:List (List Nat)):yQ (u::us)=u.length+yQ us:=by simp[yQ]
theorem iG (us vs:List (List Nat)):yQ (us++vs)=yQ us+yQ vs:=by simp[yQ]
theorem nJ (k:Nat):∀(us:List (List Nat)) (c:Nat),(midN k c us).length=yQ us
 | [],c=>rfl
 | u::us,c=>by rw[midN,List.length_append,vS,nJ k us,uM]
theorem qET (k:Nat)(u:List Nat):∀(us:List (List Nat)) (c:Nat),midN k c (us++[u])=midN k c us++wX k (c+yQ us) u u.length
 | [],c=>by simp[midN,yQ]
 | v::us,c=>by
  rw[List.cons_append,midN,midN,qET k u us,uM,List.append_assoc,Nat.add_assoc]
theorem qNG (k c:Nat)(u:List Nat)(j:Nat):zl (kmpN k c u j)=qAF k c u j:=by simp[zl,kmpN,qAF]
theorem kH (k c:Nat)(u:List Nat)(m:Nat):(wX k c u m).map zl=xS k c u m:=by
 simp only[wX,xS,List.map_map];exact List.map_congr_left fun j _=>qNG k c u j
theorem qJE (k:Nat)(v:List Nat):∀(us:List (List Nat)) (c:Nat),(midN k c us++sufN k (c+yQ us) v).map zl=wG k c (us++[v])
 | [],c=>by
  show (sufN k (c+0) v).map zl=_
  rw[sufN,kH];rfl
 | u::us,c=>by
  have:=qJE k v us (c+u.length)
  rw[List.map_append]at this
  rw[midN,List.append_assoc,List.map_append,kH,uM,<-Nat.add_assoc,List.map_append,this]
  cases us with
  | nil=>rfl
  | cons w us=>rfl
theorem eX (k:Nat)(b:List Nat)(m:Nat):(pF k b m).map zl=sM k b m:=by
 simp only[pF,sM,List.map_map];refine List.map_congr_left fun j _=>?_;simp[preN,qDT,zl]
def vW (k:Nat)(bs:List (List Nat)):List (List Nat):=match bs with
 | []=>[]
 | [b]=>[List.replicate k 0]++pF k b b.length++[List.replicate k 0]
 | b::us=>[List.replicate k 0]++pF k b b.length++midN k (1+b.length) us.dropLast++sufN k (1+b.length+yQ us.dropLast) (us.getLastD [])
theorem qOK (k:Nat):zl (List.replicate k 0)=List.replicate k 0:=by simp[zl]
theorem qHF (k:Nat):∀(bs:List (List Nat)),(vW k bs).map zl=sO k bs
 | []=>rfl
 | [b]=>by
  simp only[vW,sO,wG,List.map_append,eX,List.map_cons,List.map_nil,qOK]
  simp
 | b::c::us=>by
  have h:(c::us)=(c::us).dropLast++[(c::us).getLastD []]:=by
   rw[List.getLastD_eq_getLast?,List.getLast?_eq_some_getLast (List.cons_ne_nil c us)];exact(List.dropLast_concat_getLast (List.cons_ne_nil c us)).symm
  have ht:=qJE k ((c::us).getLastD []) (c::us).dropLast (1+b.length);rw[<-h]at ht;simp only[vW,sO,List.append_assoc];rw[List.map_append,List.map_append,ht,eX];simp[qOK]
theorem mL (k:Nat)(b:List Nat)(us:List (List Nat)):(vW k (b::us)).length=2+b.length+yQ us:=by
 have:=congrArg List.length (qHF k (b::us))
 rwa [List.length_map,pY]at this
theorem sG (bs:List ByteArray):rM bs=yQ (bs.map zI):=by
 simp only[rM,yQ,List.map_map];congr 1;exact List.map_congr_left fun s _=>(yM s).symm
theorem oA (us:List (List Nat))(i:Nat):yQ (us.take i)<=yQ us:=by
 have h:us.take i++us.drop i=us:=List.take_append_drop i us;have:=iG (us.take i) (us.drop i);rw[h]at this;omega
theorem lN {n:Nat}{letters:Int}:∀ {bs:List ByteArray} {i:Nat},vP n letters i bs=true->∀j (h:j<bs.length),tQ n letters (i+j) bs[j]=true
 | [],_,_,j,h=>by simp at h
 | u::us,i,h,j,hj=>by
  rw[vP,Bool.and_eq_true]at h
  cases j with
  | zero=>exact h.1
  | succ j =>
   have:=lN h.2 j (by simpa using hj)
   rw[show i+(j+1)=i+1+j by omega]
   simpa using this
theorem gY {n i:Nat}{letters:Int}{u:ByteArray}(h:tQ n letters i u=true):zU u letters=true/\(0<i->i+1<n->0<u.size):=by
 rw[tQ,Bool.and_eq_true,Bool.not_eq_true',Bool.and_eq_false_iff]at h;refine⟨h.1,fun h0 h1=>?_⟩;rcases h.2 with h2|h2
 ·rw[decide_eq_false_iff_not]at h2;exact absurd ⟨h0,h1⟩ h2
 rw[ByteArray.toList_eq,List.isEmpty_eq_false_iff]at h2;have:=List.length_pos_iff.2 h2
 rwa [Array.length_toList]at this
theorem qDZ {bs:List ByteArray}{letters:Int}(h:yT bs letters=0):1<=letters/\letters<=6/\0<bs.length/\bs.length<=8/\rM bs<=64/\(∀i (hi:i<bs.length),zU bs[i] letters=true)/\∀i (hi:i<bs.length),0<i->i+1<bs.length->0<bs[i].size:=by
 obtain⟨h1,h2,h3,h4,h5,h6⟩:=vH h;refine⟨h1,h2,h5,h3,h4,fun i hi=>?_,fun i hi h0 h1'=>?_⟩
 ·have:=lN h6 i hi
  exact(gY this).1
 have:=lN h6 i hi;rw[Nat.zero_add]at this;exact(gY this).2 h0 h1'
theorem gW {k:Nat}{bs:List ByteArray}(h0:0<bs.length)(ht:rM bs<=64):2<=(vW k (bs.map zI)).length/\(vW k (bs.map zI)).length<=66:=by
 match bs,h0 with
 | b::rest,_ =>
  rw[sG,List.map_cons,uM]at ht;rw[List.map_cons,mL];omega
theorem qOV {bs:List ByteArray}{i:Nat}(hi:i<bs.length):bs[i].size<=rM bs:=by
 have h:=aB bs i hi
 have h2:rM (bs.take (i+1))<=rM bs:=by
  rw[sG,sG,List.map_take];exact oA _ _
 omega
def xI (bs:List ByteArray)(letters:Int):DfaV:=if patW bs letters=0 then minD (patD letters.toNat (bs.map zI)) letters.toNat else qTZ
def nthL (bs:List ByteArray)(i:Nat):List Nat:=zI (bs.getD i ⟨#[]⟩)
def pZ (bs:List ByteArray):List (List Nat):=((bs.map zI).drop 1).dropLast
theorem qVZ {bs:List ByteArray}{i:Nat}(h:i<bs.length):(bs.map zI).getD i []=nthL bs i:=by
 rw[zG (by simpa using h),nthL,zG h];simp
theorem mR (bs:List ByteArray):(pZ bs).length=bs.length-1-1:=by simp[pZ]
theorem qRR {bs:List ByteArray}{i:Nat}(h:i<bs.length-1-1):(pZ bs).getD i []=nthL bs (1+i):=by
 rw[zG (by rw[mR];exact h),nthL,zG (show 1+i<bs.length by omega)];simp[pZ,Nat.add_comm]
theorem qUQ {k:Nat}{bs:List ByteArray}(h:bs.length=1):vW k (bs.map zI)=[List.replicate k 0]++pF k (nthL bs 0) (nthL bs 0).length++[List.replicate k 0]:=by
 match bs,h with
 | [b],_=>rfl
theorem qPR {k:Nat}{bs:List ByteArray}(h:2<=bs.length):vW k (bs.map zI)=[List.replicate k 0]++pF k (nthL bs 0) (nthL bs 0).length++midN k (1+(nthL bs 0).length) (pZ bs)++sufN k (1+(nthL bs 0).length+yQ (pZ bs)) (nthL bs (bs.length-1)):=by
 match bs,h with
 | b::c::rest,_ =>
  have e:((c::rest).map zI).getLastD []=nthL (b::c::rest) ((b::c::rest).length-1):=by
   rw[List.getLastD_eq_getLast?,List.getLast?_eq_getElem?,nthL];simp only[List.length_map,List.length_cons,List.getElem?_map];rw[show rest.length+1+1-1=rest.length+1 by omega,show rest.length+1-1=rest.length by omega];have h2:rest.length<(c::rest).length:=(by simp);rw[List.getElem?_eq_getElem h2,zG (show rest.length+1<(b::c::rest).length by simp)];rfl
  show [List.replicate k 0]++pF k (zI b) (zI b).length++midN k (1+(zI b).length) ((c::rest).map zI).dropLast++sufN k (1+(zI b).length+yQ ((c::rest).map zI).dropLast) (((c::rest).map zI).getLastD [])=_;rw[e];rfl
theorem qWH {bs:List ByteArray}(i:Nat):yQ ((pZ bs).take i)+(nthL bs 0).length<=rM bs:=by
 rw[sG];have h1:=oA (pZ bs) i
 match bs with
 | []=>simp[pZ,yQ,nthL,zI]at h1⊢
 | b::rest =>
  have h2:yQ (pZ (b::rest))<=yQ (rest.map zI):=by
   show yQ (rest.map zI).dropLast<=_;rw[List.dropLast_eq_take];exact oA _ _
  rw[List.map_cons,uM];show _+(zI b).length<=_;omega
theorem BB.mat {W0 W:World}{bb k:Nat}{t:List (List Nat)}{gs:List Nat}{sn:Option Addr}{cn:Nat}(h:BB W0 W bb k t gs sn cn)(hk:k<=maxLen):Mat W.heap.size W (.slice sn t.length cn) (t.map zl):=by
 refine Mat.of_rows (B:=W.heap.size) h.own ⟨by rw[List.length_map,List.length_map,h.len],fun i h1 h2=>?_⟩ (Nat.le_refl _);have hi:i<t.length:=by simpa using h2
 have hg:i<gs.length:=by rw[h.len];exact hi
 obtain⟨ha,hl⟩:=h.row i hi;have:=(RowX.of_arr (X:=fun _=>True) ha (by rw[zV];exact hl) hk trivial).1;rw[zG hg,zG hi]at this;simp only[List.getElem_map];have e:ints (zl t[i])=nats t[i]:=by simp[ints,zl,nats]
 rw[e];exact this
structure NewD (wo W:World)(T F k RL:Nat)(sn:Option Addr)(cn:Nat):Prop where
 box:W.heap[T]?=some (.cells #[.int .i64 (k:Int),.int .i64 1,.slice (some ⟨F,0,none⟩) RL RL,.slice sn RL cn] 30 (0,0))
 arr:Arr W F 4 (bls (List.replicate RL false))
 grown:wo.grownBy W none
 lo:wo.heap.size<=T/\wo.heap.size<=F
theorem xDD (wo:World)(k RL:Nat)(sn:Option Addr)(cn:Nat):NewD wo (((wo.alloc (.cells (madeCells #[.bool false] RL) 4)).alloc (.cells #[.int .i64 (k:Int),.int .i64 1,.slice (some ⟨wo.heap.size,0,none⟩) RL RL,.slice sn RL cn] 30)).drew) (wo.heap.size+1) wo.heap.size k RL sn cn:=by
 have a1:=Arr.new wo 4 (madeCells #[.bool false] RL);rw[qEU]at a1;exact⟨oL wo _ _,(a1.kept (Ga _ (.cells #[.int .i64 (k:Int),.int .i64 1,.slice (some ⟨wo.heap.size,0,none⟩) RL RL,.slice sn RL cn] 30) none) (by simp)).of_heap rfl,zA (vC (Ga wo _ none) _) (zN _ none),by omega⟩
theorem xDC (wo:World)(k RL:Nat)(sn:Option Addr)(cn:Nat):NewD wo (((wo.alloc (.cells #[.int .i64 (k:Int),.int .i64 1,.slice (some ⟨wo.heap.size+1,0,none⟩) RL RL,.slice sn RL cn] 30)).alloc (.cells (madeCells #[.bool false] RL) 4)).drew) wo.heap.size (wo.heap.size+1) k RL sn cn:=by
 have a1:=Arr.new (wo.alloc (.cells #[.int .i64 (k:Int),.int .i64 1,.slice (some ⟨wo.heap.size+1,0,none⟩) RL RL,.slice sn RL cn] 30)) 4 (madeCells #[.bool false] RL);rw[qEU,zL]at a1;exact⟨oO wo _ _,a1.of_heap rfl,zA (vC (Ga wo _ none) _) (zN _ none),by omega⟩
theorem qQM {W0 W:World}{bb k F RL:Nat}{bs:List ByteArray}{gs:List Nat}{sn:Option Addr}{cn:Nat}(h:BB W0 W bb k (vW k (bs.map zI)) gs sn cn)(hk:k<=6)(hR:RL=(vW k (bs.map zI)).length)(h0:0<RL)(ha:Arr W F 4 (bls ((List.replicate RL false).set (RL-1) true)))(a9:RL<=maxLen):tM W.heap.size W (.agg #[.int .i64 (k:Int),.int .i64 1,.slice (some ⟨F,0,none⟩) RL RL,.slice sn RL cn]) (patD k (bs.map zI)):=by
 have hm:=h.mat (by unfold maxLen;omega);rw[qHF,<-hR]at hm;have hl:(sO k (bs.map zI)).length=RL:=by rw[<-qHF,List.length_map,hR]
 have hf:(List.replicate RL false).set (RL-1) true=(patD k (bs.map zI)).final:=by
  show _=List.replicate ((sO k (bs.map zI)).length-1) false++[true];rw[hl];obtain⟨r,rfl⟩:∃r,RL=r+1:=⟨RL-1,by omega⟩;rw[List.replicate_succ',List.set_append_right _ _ (by simp)];simp
 refine⟨_,_,rfl,?_,hm⟩;rw[<-hf];have:=(RowX.of_arr (X:=fun _=>True) ha (by rw[yV,List.length_set,List.length_replicate]) a9 trivial).1;exact this.row
theorem qBL {k:Nat}{bs:List ByteArray}(a8:1<=k)(a9:k<=6)(h0:0<bs.length)(ht:rM bs<=64):VD (patD k (bs.map zI)) (vW k (bs.map zI)).length k:=by
 match bs,h0 with
 | b::rest,_ =>
  rw[sG,List.map_cons,uM]at ht;rw[List.map_cons,mL];exact xBJ a8 a9 ht
theorem qQK (B:Nat)(w:World)(v:Value)(bs:List ByteArray)(letters:Int)(h:Row B w v (txtV bs))(hB:B<=w.heap.size)(hs:∀i (hi:i<bs.length),bs[i].size<=maxLen):Calls Tryz.prog 64 #[.agg #[v],.int .i64 letters] w (qCQ w (patW bs letters) (xI bs letters)):=by
 have H:=Kh h;have HS:=Kh hs;obtain⟨a,cap,rfl⟩:=h.shape;rw[yD]at H⊢
 obtain⟨b4,H0,c7,f7⟩:((w.alloc (.cells #[.slice a bs.length cap] 65)).alloc (.cells #[.int .i64 0,.int .i64 0,.slice none 0 0,.slice none 0 0] 30)).heap[w.heap.size]?=some (.cells #[.slice a bs.length cap] 65 (0,0))/\((w.alloc (.cells #[.slice a bs.length cap] 65)).alloc (.cells #[.int .i64 0,.int .i64 0,.slice none 0 0,.slice none 0 0] 30)).heap[w.heap.size+1]?=some (.cells #[.int .i64 0,.int .i64 0,.slice none 0 0,.slice none 0 0] 30 (0,0))/\w.grownBy ((w.alloc (.cells #[.slice a bs.length cap] 65)).alloc (.cells #[.int .i64 0,.int .i64 0,.slice none 0 0,.slice none 0 0] 30)) none/\((w.alloc (.cells #[.slice a bs.length cap] 65)).alloc (.cells #[.int .i64 0,.int .i64 0,.slice none 0 0,.slice none 0 0] 30)).heap.size=w.heap.size+2 :=
  ⟨oO w _ _,oL w _ _,vC (Ga w _ none) _,by rw[zL,zL]⟩
 obtain⟨wA,d9⟩:=Nm ((w.alloc (.cells #[.slice a bs.length cap] 65)).alloc (.cells #[.int .i64 0,.int .i64 0,.slice none 0 0,.slice none 0 0] 30));rw[<-d9]at b4 H0 c7 f7;obtain⟨P,hP⟩:=Nm w.heap.size;obtain⟨Q,hQ⟩:=Nm (w.heap.size+1);have l1:=Kh hP;have l0:Hid (Q=P+1):=Kh (by omega);have n2:P<Q:=by omega
 have m9:Q<wA.heap.size:=by omega
 have n1:w.heap.size<=P:=by omega
 rw[<-hQ]at H0;rw[<-hP]at b4 hB;have c0:wA.cell? ⟨P,0,none⟩=some (.slice a bs.length cap):=by simpa using zJ b4 0
 obtain⟨l8,l7,l4,k6⟩:=K4 b4 H0 c7 d9;have i7:=Kh (jU B wA _ bs letters (H.out.kept c7 (by simp)) hs);rw[show Row B w (.slice a bs.length cap) (txtV bs)=Row B w (.slice a bs.length cap) (txtV bs) from rfl]at H;clear b4 H0 c7 d9 h hs hP hQ f7;go_enter Tryz.func64,Tryz.ntmps64;go_upto_region 1 with fail;rw[<-k6.out,<-l1.out,<-l0.out];go_wp2_with fail;refine i7.out.mono ?_;rintro e w1 ⟨rfl,b0⟩;have l9:=b0.size;have e8:=Kh (zA l4.out b0);have f6:=Kh (zB l8.out b0);have h2:=Kh (zB l7.out b0);have q1:=zE h2.out;have f0:=zF h2.out 0;have f1:=zF h2.out 1;have f2:=zF h2.out 2;have f3:=zF h2.out 3;clear b0 i7 c0;by_cases hE:patW bs letters=0
 case neg =>
  have HD:Hid (xI bs letters=qTZ):=Kh (if_neg hE);obtain⟨E,e2⟩:=Nm (patW bs letters);rw[<-e2]at hE⊢;have e1:(E != 0)=true:=by rw[bne_iff_ne];exact hE
  obtain⟨q0,q1,q2,q3⟩:=q1;have l5:=Kh e2;clear hE e2;go_wp2;obtain⟨a2,a1⟩:=vY h2.out (.int .i64 0) (.int .i64 0) (.slice none 0 0) (.slice none 0 0);obtain⟨wz,a5⟩:=Nm ((((w1.setCell ⟨Q,0,none⟩ (.int .i64 0)).setCell ⟨Q,1,none⟩ (.int .i64 0)).setCell ⟨Q,2,none⟩ (.slice none 0 0)).setCell ⟨Q,3,none⟩ (.slice none 0 0));rw[<-a5]at a2 a1⊢;clear a5;obtain⟨r0,r1,r2,r3⟩:=zE a2;clear q0 q1 q2 q3 f0 f1 f2 f3;refine bodyPost_ret (v:=.tuple #[.agg #[.int .i64 0,.int .i64 0,.slice none 0 0,.slice none 0 0],.int .i64 E]) (by simp[results,Tryz.results64,go_sem,r0,r1,r2,r3]) rfl ?_;exact⟨_,_,by rw[l5.out,HD.out];rfl,by rw[HD.out];exact DfaT.zero _,zA e8.out a1 (fun k e=>by have h7:Q=k:=Oj e;omega)⟩
 rw[hE];clear q1 f0 f1 f2 f3;obtain⟨H7,H3,H6,m2,a7,f8,g2⟩:=qDZ (vO.1 hE);obtain⟨k,hk⟩:∃k:Nat,letters=(k:Int):=⟨letters.toNat,by omega⟩
 have HD:Hid (xI bs letters=minD (patD k (bs.map zI)) k):=Kh (by
  rw[xI,if_pos hE,hk,Int.toNat_natCast])
 subst hk;have H7:1<=k:=by omega
 have H3:k<=6:=by omega
 obtain⟨b,off,_,ea,m8,k4,g8,f9⟩:=H.out.some_ (by rw[yD];exact H6);rw[yD]at ea k4;simp only[Value.slice.injEq]at ea;obtain⟨rfl,_,rfl⟩:=ea;have m7:cap<=9223372036854775807:=by unfold maxLen at g8;omega
 have a0:Hid (∀W:World,w1.grownBy W none->∀i,i<bs.length->W.cell? ⟨b,off+i,none⟩=some (.string (bs.getD i ⟨#[]⟩))):=Kh (fun W hg i hi=>vL ((f9.kept e8.out (by simp)).kept hg (by simp)) i hi)
 have b6:Hid (∀i,i<bs.length->zU (bs.getD i ⟨#[]⟩) (k:Int)=true/\(bs.getD i ⟨#[]⟩).size<=64):=Kh (fun i hi=>by
  rw[zG hi];exact⟨f8 i hi,by have:=qOV hi;omega⟩)
 have l2:Hid (∀i,i<bs.length->0<i->i+1<bs.length->0<(bs.getD i ⟨#[]⟩).size):=Kh (fun i hi h0 h1=>by rw[zG hi];exact g2 i hi h0 h1);have HE:=Kh hE;clear hE f8 g2 f9 g8;have e5:Hid (∀W:World,w1.grownBy W none->W.cell? ⟨P,0,none⟩=some (.slice (some ⟨b,off,none⟩) bs.length cap)):=Kh (fun W hg=>by simpa using zJ (zB f6.out hg) 0);obtain⟨bb,d6⟩:=Nm w1.heap.size;obtain⟨w2,d1⟩:=Nm (w1.alloc (.cells #[.int .i64 (k:Int),.slice none 0 0] 134));have d4:=Ga w1 (.cells #[.int .i64 (k:Int),.slice none 0 0] 134) none;have H0:=heap_alloc_new w1 (.cells #[.int .i64 (k:Int),.slice none 0 0] 134);rw[<-d1]at d4 H0;rw[<-d6]at H0;have c2:Hid (BB w1 w2 bb k [] [] none 0):=Kh (BB.start H0 (by omega) d4);have k8:=Kh d1;have j4:=Kh d6;clear d4 H0 d1 d6;have n0:Q<bb:=by have:=j4.out;omega
 go_upto_region 5 with fail;rw[<-k8.out,<-j4.out];go_wp2_with fail;refine(nP w1 w2 bb k [] [] none 0 0 c2.out H7 H3 (by simp)).mono ?_;rintro e w3 ⟨g0,sn3,cn3,rfl,c9⟩;have p3:=e5.out _ c9.grown;have s3:=a0.out _ c9.grown 0 H6;rw[Nat.add_zero]at s3;obtain⟨u0,d2⟩:=Nm (bs.getD 0 ⟨#[]⟩);rw[<-d2]at s3;have i8:=Kh d2;have j5:=Kh c9;clear d2 c9 c2;go_wp2_with fail;have c5:=b6.out 0 H6;rw[<-i8.out]at c5;refine(qIQ w1 w3 bb k _ _ sn3 cn3 u0 j5.out (by simp) H7 H3 c5.1 c5.2).mono ?_;rintro e w4 ⟨gs4,sn4,cn4,rfl,b3⟩
 have e4:[]++[List.replicate k 0]++pF k (zI u0) u0.size=[List.replicate k 0]++pF k (nthL bs 0) (nthL bs 0).length:=by
  rw[nthL,<-i8.out,yM];rfl
 rw[e4]at b3;have p4:=e5.out _ b3.grown;have a4:=Kh b3;have j1:=Kh b3.grown;clear b3 e4 p3 s3 c5 j5
 go_upto_if 35 with fail
 go_cut [8] (fun v8 wx=>∃(gs:List Nat) (sn:Option Addr) (cn:Nat),BB w1 wx bb k (vW k (bs.map zI)) gs sn cn)
 case first =>
  by_cases h1:bs.length=1
  ·have i6:((bs.length:Int)-1 == 0)=true:=by simp[h1]
   have H1:=Kh h1;clear h1;go_wp2_with fail
   refine(nP w1 w4 bb k _ gs4 sn4 cn4 0 a4.out H7 H3 (by
    have h9:=(b6.out 0 H6).2;have e9:([List.replicate k 0]++pF k (nthL bs 0) (nthL bs 0).length).length=1+(bs.getD 0 ⟨#[]⟩).size:=by simp[pF,nthL,yM];omega
    omega)).mono ?_
   rintro e w5 ⟨g5,sn5,cn5,rfl,h6⟩;have er:[List.replicate k 0]++pF k (nthL bs 0) (nthL bs 0).length++[List.replicate k 0]=vW k (bs.map zI):=(qUQ H1.out).symm;rw[er]at h6;obtain⟨gs5,a9⟩:=Nm (gs4++[g5]);rw[<-a9]at h6;have H4:=Kh h6;clear h6 er a4 a9;go_wp2
   go_meet
   exact⟨_,_,_,H4.out⟩
  have i6:((bs.length:Int)-1 == 0)=false:=by rw[beq_eq_false_iff_ne];omega
  have j9:2<=bs.length:=by omega
  rw[i6];obtain⟨m,hm⟩:=Nm (bs.length-1-1);have HM:=Kh hm;obtain⟨c1,c8⟩:=Nm (1+(nthL bs 0).length);have j2:=Kh c8;have k3:c1<=65:=by rw[c8,nthL,yM];have:=(b6.out 0 H6).2;omega
  obtain⟨base,h3⟩:=Nm ([List.replicate k 0]++pF k (nthL bs 0) (nthL bs 0).length);have g9:base.length=c1:=by rw[h3,c8];simp[pF];omega
  rw[<-h3]at a4;have c3:=Kh h3;have f5:=Kh g9;clear h1 hm c8 h3 g9;go_wp2_with fail
  go_loopg [10,43] m (fun gh a10 i wr=>∃(j:Nat) (gs:List Nat) (sn:Option Addr) (cn:Nat),gh+j=m/\i=.int .i64 j/\BB w1 wr bb k (base++midN k c1 ((pZ bs).take j)) gs sn cn)
  case atStart=>exact⟨0,gs4,sn4,cn4,rfl,rfl,by simpa [midN] using a4.out⟩
  clear a4 j1 p4;obtain⟨j,gs,sn,cn,g4,rfl,a3⟩:=hrel;have e7:=Kh g4;have f4:=Kh a3;clear g4
  have a8:(base++midN k c1 ((pZ bs).take j)).length<=129:=by
   rw[List.length_append,f5.out,nJ];have:=qWH (bs:=bs) j;have:=j2.out;omega
  have b8:=Kh a8;clear a8;by_cases hj:j<m
  ·have d3:1+j<bs.length:=by have:=HM.out;omega
   have k1:(j:Int)<((bs.length-1-1:Nat):Int):=(by have:=HM.out;omega);have sj:=a0.out _ a3.grown (1+j) d3;rw[<-Nat.add_assoc]at sj;obtain⟨u,hu⟩:=Nm (bs.getD (1+j) ⟨#[]⟩);have H5:=b6.out (1+j) d3;have g1:=l2.out (1+j) d3 (by omega) (by have:=HM.out;omega);rw[<-hu]at sj H5 g1;have HU:=Kh hu;have b7:=Kh H5;clear hu a3 H5;go_wp2_with fail;refine(bD w1 wr bb k _ gs sn cn u f4.out (by have:=b8.out;omega) H7 H3 b7.out.1 g1 b7.out.2).mono ?_;rintro e w6 ⟨gs6,sn6,cn6,rfl,d8⟩
   have l6:Hid (BB w1 w6 bb k (base++midN k c1 ((pZ bs).take (j+1))) gs6 sn6 cn6):=Kh (by
    have et:(pZ bs).take (j+1)=(pZ bs).take j++[zI u]:=by
     rw[zT (d:=[]) (by rw[mR];have:=HM.out;omega),qRR (by have:=HM.out;omega),nthL,<-HU.out]
    rw[et,qET,<-List.append_assoc];have el:(base++midN k c1 ((pZ bs).take j)).length=c1+yQ ((pZ bs).take j):=by rw[List.length_append,f5.out,nJ]
    rw[el]at d8
    exact d8)
   clear d8;go_wp2;go_roundg (m-(j+1))
   case measure=>have:=e7.out;omega
   exact⟨j+1,gs6,sn6,cn6,by have:=e7.out;omega,by go_num,l6.out⟩
  have g3:j=m:=by have:=e7.out;omega
  have k1:¬(j:Int)<((bs.length-1-1:Nat):Int):=(by have:=HM.out;omega);have pl:=e5.out _ a3.grown;have sl:=a0.out _ a3.grown (bs.length-1) (by omega);obtain⟨u,hu⟩:=Nm (bs.getD (bs.length-1) ⟨#[]⟩);have H5:=b6.out (bs.length-1) (by omega);rw[<-hu]at sl H5;have HU:=Kh hu;have b7:=Kh H5;have m5:((bs.length:Int)-1).toNat=bs.length-1:=by omega
  have m4:(bs.length:Int)-1<bs.length:=(by omega);have m3:0<=(bs.length:Int)-1:=by omega
  have l3:=Kh g3;clear hu H5 a3 g3;go_wp2_with fail;refine(qIP w1 wr bb k _ gs sn cn u f4.out (by have:=b8.out;omega) H7 H3 b7.out.1 b7.out.2).mono ?_;rintro e w5 ⟨gs5,sn5,cn5,rfl,h6⟩
  have H4:Hid (BB w1 w5 bb k (vW k (bs.map zI)) gs5 sn5 cn5):=Kh (by
   have et:(pZ bs).take j=pZ bs:=List.take_of_length_le (by rw[mR];have:=HM.out;have:=l3.out;omega);have el:(base++midN k c1 (pZ bs)).length=c1+yQ (pZ bs):=by rw[List.length_append,f5.out,nJ]
   rw[et,el]at h6;rw[qPR j9,show nthL bs (bs.length-1)=zI u by rw[nthL,<-HU.out]];have:=c3.out;rw[this,j2.out]at h6
   exact h6)
  clear h6 f4 sl pl;go_wp2
  go_meet
  exact⟨_,_,_,H4.out⟩
 obtain⟨gs5,sn5,cn5,h6⟩:=hcut;have H4:=Kh h6;clear h6 p4 a4 j1;obtain⟨w5,rfl⟩:=Nm (wc:World);obtain⟨c50,c51,c5f⟩:=H4.out.cells;have j8:=gW (k:=k) H6 a7;obtain⟨RL,e0⟩:=Nm ((vW k (bs.map zI)).length);rw[<-e0]at c51 j8;have e3:=Kh e0;have k0:=qZV RL (by omega);have a2:=zM H4.out.box;obtain⟨wo,rfl⟩:=Nm (w5:World);clear e0;go_wp2_with fail
 go_region
 all_goals
  first
  |
   obtain⟨w7,a6⟩:=Nm (((wo.alloc (.cells (madeCells #[.bool false] RL) 4)).alloc (.cells #[.int .i64 (k:Int),.int .i64 1,.slice (some ⟨wo.heap.size,0,none⟩) RL RL,.slice sn5 RL cn5] 30)).drew);have h8:=xDD wo k RL sn5 cn5;rw[<-a6]at h8⊢;obtain⟨T,hT⟩:=Nm (wo.heap.size+1);obtain⟨F,hF⟩:=Nm wo.heap.size;rw[<-hT]at h8⊢;rw[<-hF]at h8⊢;have i1:T≠F:=(by omega);clear hT hF
  |
   obtain⟨w7,a6⟩:=Nm (((wo.alloc (.cells #[.int .i64 (k:Int),.int .i64 1,.slice (some ⟨wo.heap.size+1,0,none⟩) RL RL,.slice sn5 RL cn5] 30)).alloc (.cells (madeCells #[.bool false] RL) 4)).drew);have h8:=xDC wo k RL sn5 cn5;rw[<-a6]at h8⊢;obtain⟨T,hT⟩:=Nm wo.heap.size;obtain⟨F,hF⟩:=Nm (wo.heap.size+1);rw[<-hF]at h8⊢;rw[<-hT]at h8⊢;have i1:T≠F:=(by omega);clear hT hF
  have H2:=Kh h8;have k7:=Kh a6;clear h8 a6 c50 c51 c5f k0;have h4:=Kh (H4.out.grow H2.out.grown);obtain⟨b70,b71,b7f⟩:=h4.out.cells;rw[<-e3.out]at b71;obtain⟨t70,t71,t72,t73⟩:=zE H2.out.box;obtain⟨R1,i3⟩:=Nm (RL-1);have e71:(RL:Int)-1=(R1:Int):=by omega
  have e72:IntKind.i64.wrap ((RL:Int)-1)=(R1:Int):=by rw[e71];exact qB (by omega)
  have b5:R1<RL:=(by omega);have i2:(R1:Int)<RL:=(by omega);have cF:=H2.out.arr.bool R1 (by rw[List.length_replicate];exact b5);have fF:=H2.out.arr.frozen R1;have m6:(bls (List.replicate RL false)).length=RL:=by rw[yV,List.length_replicate]
  have k9:=Kh i3;clear i3;go_wp2_with fail
  go_region
  obtain⟨w8,c4⟩:=Nm ((w7.setCell ⟨F,R1,none⟩ (.bool true)).drew);have H8:w7.grownBy w8 (some F):=by rw[c4];exact zA (zD w7 ⟨F,R1,none⟩ _) (zN _ none)
  have i0:Arr w8 F 4 (bls ((List.replicate RL false).set (RL-1) true)):=by
   rw[c4,<-k9.out];exact(H2.out.arr.bool_set R1 (by rw[List.length_replicate];exact b5) true).of_heap rfl
  have n3:w7.heap.size<=w8.heap.size:=H8.size;obtain⟨cF8,rF8,h5,_⟩:=H2.out.arr
  have d7:BB w1 w8 bb k (vW k (bs.map zI)) gs5 sn5 cn5:=by
   refine⟨zB h4.out.box H8 ?_,h4.out.own.kept H8 (.inr (zO h4.out.own h5 (by decide))),h4.out.len,fun i hi=>⟨(h4.out.row i hi).1.kept H8 ?_,(h4.out.row i hi).2⟩,h4.out.nd,h4.out.lo,h4.out.glo,zA h4.out.grown H8 (fun q e=>?_)⟩
   ·intro e
    have e:=Oj e;rw[e,h4.out.box]at h5;simp only[Option.some.injEq,Obj.cells.injEq]at h5;exact absurd h5.2.1 (by decide)
   ·intro e
    have e:=Oj e;obtain⟨cu,rs,d5,_⟩:=(h4.out.row i hi).1;rw[<-e,h5]at d5;simp only[Option.some.injEq,Obj.cells.injEq]at d5;exact absurd d5.2.1 (by decide)
   have e:F=q:=Oj e;have:=H2.out.lo;have:=H4.out.grown.size;omega
  have b1:=qQM d7 H3 e3.out (by omega) i0 (by unfold maxLen;omega);have c6:=qBL H7 H3 H6 a7;rw[<-e3.out]at c6;have i9:=Kh (qJS w8.heap.size w8 _ (patD k (bs.map zI)) RL k (Nat.le_refl _) b1 c6 (by omega));obtain⟨t80,t81,t82,t83⟩:=zE (zB H2.out.box H8 (fun e=>i1 (Oj e).symm));have b9:Hid (w1.grownBy w8 none):=Kh d7.grown;have e6:Hid ((minD (patD k (bs.map zI)) k).letters=k/\(minD (patD k (bs.map zI)) k).start=0):=Kh ⟨(qEQ c6).hk,rfl⟩;rw[<-c4];clear c4 H8 i0 h5 d7 b1 c6 t70 t71 t72 t73 b70 b71 b7f cF fF h4 H2 k7;go_wp2_with fail;refine i9.out.mono ?_;rintro e w9 ⟨v9,rfl,g7,g6⟩;have d0:=Kh g7;obtain⟨o9,m0,sf9,cf9,sn9,cn9,rfl,m1,b2⟩:=g7;obtain⟨R,hR⟩:=Nm (minD (patD k (bs.map zI)) k);rw[<-hR]at b2 d0 e6⊢;rw[e6.out.1,e6.out.2]at d0⊢;obtain⟨FL,i5⟩:=Nm R.final.length;obtain⟨NL,i4⟩:=Nm R.next.length;rw[<-i5,<-i4]at d0⊢;have HR:=Kh hR;have j0:=Kh (zA b9.out g6);have H9:=zB h2.out j0.out;have j3:=Kh H9;obtain⟨q0,q1,q2,q3⟩:=zE H9;have f0:=zF H9 0;have f1:=zF H9 1;have f2:=zF H9 2;have f3:=zF H9 3;have k5:Q<w8.heap.size:=(by have:=b9.out.size;omega);clear b2 i5 i4 hR g6 H9 t80 t81 t82 t83 i9;go_wp2;obtain⟨a2,a1⟩:=vY j3.out (.int .i64 (k:Int)) (.int .i64 0) (.slice sf9 FL cf9) (.slice sn9 NL cn9);obtain⟨wz,a5⟩:=Nm ((((w9.setCell ⟨Q,0,none⟩ (.int .i64 (k:Int))).setCell ⟨Q,1,none⟩ (.int .i64 0)).setCell ⟨Q,2,none⟩ (.slice sf9 FL cf9)).setCell ⟨Q,3,none⟩ (.slice sn9 NL cn9));rw[<-a5]at a2 a1⊢;clear a5;obtain⟨r0,r1,r2,r3⟩:=zE a2;clear q0 q1 q2 q3 f0 f1 f2 f3;refine bodyPost_ret (v:=.tuple #[.agg #[.int .i64 (k:Int),.int .i64 0,.slice sf9 FL cf9,.slice sn9 NL cn9],.int .i64 0]) (by simp[results,Tryz.results64,go_sem,r0,r1,r2,r3]) rfl ?_;have k2:=d0.out.far a1 j3.out k5;obtain⟨fv9,nv9,j6,j7⟩:=k2.t;refine⟨fv9,nv9,?_,?_,zA (zA e8.out j0.out) a1 (fun q e=>by have h7:Q=q:=Oj e;omega)⟩
  ·rw[HE.out,HD.out,<-HR.out,<-j6]
  rw[HD.out,<-HR.out];exact j7
def autD (ps:List (List ByteArray))(letters:Int):List DfaV:=ps.map fun p=>xI p letters
def qLN (w:World)(E:Int)(ds:List DfaV)(e:Ending)(w':World):Prop:=∃sa n sc,e=.returned (.tuple #[.slice sa n sc,.int .i64 E])/\w.grownBy w' none/\((E≠0)\/(E=0/\n=ds.length/\∃l,l.map (·.1)=ds/\DsUp w.heap.size w' (.slice sa n sc) l))
theorem qGE (B:Nat)(w:World)(v:Value)(ps:List (List ByteArray))(letters:Int)(hB:B<=w.heap.size)(h:vE B w v ps)(hl:ps.length<=4096):Calls Tryz.prog 46 #[v,.int .i64 letters] w (qLN w (vV letters ps) (autD ps letters)):=by
 obtain⟨a,c,rfl⟩:=h.shape;obtain⟨n,hn⟩:=Nm ps.length;have HN:=Kh hn;have H:=Kh h;rw[<-hn]at hl H⊢;clear h hn;go_enter Tryz.func46,Tryz.ntmps46;go_wp2
 go_loopg [7,8,16] n (fun gh s7 s8 i wr=>∃k:Nat,gh+k=n/\i=.int .i64 k/\vV letters (ps.drop k)=vV letters ps/\w.grownBy wr none)
 case atStart=>exact⟨0,rfl,rfl,rfl,zH _ _⟩
 obtain⟨k,H6,rfl,b2,hg⟩:=hrel;obtain⟨h9,HG,h4⟩:=K3 H6 hg b2;clear H6 b2;by_cases hk:k<n
 ·have b5:(k:Int)<n:=by omega
  have H5:=H.out.kept hg (by simp);obtain⟨b,off,cap,e,c6,h8,a6,h3⟩:=H5.at_ (by rw[<-HN.out];omega);rw[<-HN.out]at e h8 h3;simp only[Value.slice.injEq,true_and]at e;obtain⟨rfl,rfl⟩:=e;obtain⟨sa,sc,c1,h2,H1⟩:=h3 k hk;obtain⟨q,hq⟩:=Nm (ps.getD k []);rw[<-hq]at c1 h2 H1;have c4:c<=9223372036854775807:=by unfold maxLen at a6;omega
  have HV:Hid (∀W:World,wr.grownBy W none->Calls Tryz.prog 34 #[.agg #[.slice sa q.length sc],.int .i64 letters] W fun e w'=>e=.returned (.int .i64 (patW q letters))/\w.grownBy w' none):=Kh (fun W hW=>(jU B W _ q letters (h2.kept hW (by simp)) H1).mono fun e w' ⟨he,hg'⟩=>⟨he,zA HG.out (zC hW hg')⟩);have HQ:=Kh hq;obtain⟨E,hE⟩:=Nm (patW q letters);rw[<-hE]at HV;have HE:=Kh hE;obtain⟨ql,H4⟩:=Nm q.length;rw[<-H4]at c1 HV;clear H5 h3 h2 H1 hq hg hE H4;go_wp2_with fail;refine(HV.out _ (Ga wr _ none)).mono ?_;rintro e w1 ⟨rfl,h7⟩;have H0:=Kh h7;clear h7 HV;by_cases hE:E=0
  ·have e1:(E != 0)=false:=by simp[hE]
   have b0:=Kh hE;clear hE;go_wp2;go_roundg (n-(k+1))
   case measure=>have:=h9.out;omega
   exact⟨k+1,by have:=h9.out;omega,by go_num,(lL (by rw[<-HN.out];exact hk) (by rw[<-HQ.out,<-HE.out];exact b0.out)).trans h4.out,H0.out⟩
  have e1:(E != 0)=true:=by rw[bne_iff_ne];exact hE
  have b0:=Kh hE;have c0:Hid (vV letters ps=E):=Kh (by rw[<-h4.out,dA (by rw[<-HN.out];exact hk) (by rw[<-HQ.out,<-HE.out];exact hE),<-HQ.out,<-HE.out]);clear hE;go_wp2;refine bodyPost_ret (v:=.tuple #[.slice none 0 0,.int .i64 E]) (by simp[results,Tryz.results46,go_sem]) rfl ?_;exact⟨none,0,0,by rw[c0.out],H0.out,.inl (by rw[c0.out];exact b0.out)⟩
 have a3:k=n:=by have:=h9.out;omega
 have a8:Hid (vV letters ps=0):=Kh (by rw[<-h4.out];exact jW (by rw[<-HN.out];exact hk));have c5:¬(k:Int)<n:=by omega
 have c8:Hid (∀j,j<n->patW (ps.getD j []) letters=0):=Kh (fun j hj=>by
  have:=tE.1 a8.out;rw[zG (by rw[<-HN.out];exact hj)]
  exact this _ (List.getElem_mem _))
 clear a3 h4 h9;obtain⟨wo,rfl⟩:=Nm (wr:World);go_wp2_with (first|(at_make;refine xBR rfl _ _ _ rfl iM .i64 .i64 _ (n+1) rfl rfl (by simp) ?m2 ?m3 ?_)|fail)
 case m2=>omega
 case m3=>unfold maxLen;omega
 intro w1 h6 h7;have b9:Hid (DsUp w.heap.size w1 (.slice (some ⟨wo.heap.size,0,none⟩) 0 (n+1)) []):=Kh ⟨yU h6 HG.out.size,fun x hx=>absurd hx (by simp)⟩;have H0:=Kh (zA HG.out h7);clear h6 h7 hg HG;go_wp2
 go_loopg [9,11,12,13,33] n (fun gh v9 s11 s12 s13 i wr=>∃(k:Nat) (sa:Option Addr) (sc:Nat) (l:List (DfaV×Value×Value)),gh+k=n/\i=.int .i64 k/\v9=.slice sa k sc/\l.map (·.1)=autD (ps.take k) letters/\DsUp w.heap.size wr (.slice sa k sc) l/\l.length=k/\w.grownBy wr none)
 case atStart=>exact⟨0,_,_,[],rfl,rfl,rfl,rfl,b9.out,rfl,H0.out⟩
 clear b9 H0;obtain⟨k,sa,sc,l,H6,rfl,rfl,b4,b6,b3,hg⟩:=hrel;obtain⟨h9,HG,H9,b1,H8⟩:=K5 H6 hg b4 b6 b3;clear H6 b4 b6 b3;by_cases hk:k<n
 ·have b5:(k:Int)<n:=by omega
  have H5:=H.out.kept hg (by simp);obtain⟨b,off,cap,e,c6,h8,a6,h3⟩:=H5.at_ (by rw[<-HN.out];omega);rw[<-HN.out]at e h8 h3;simp only[Value.slice.injEq,true_and]at e;obtain⟨rfl,rfl⟩:=e;obtain⟨ea,ec,c1,h2,H1⟩:=h3 k hk;have a2:=c8.out k hk
  have a7:Hid (autD (ps.take (k+1)) letters=autD (ps.take k) letters++[xI (ps.getD k []) letters]):=Kh (by
   rw[zT (d:=[]) (by rw[<-HN.out];exact hk),autD,List.map_append];rfl)
  obtain⟨q,hq⟩:=Nm (ps.getD k []);rw[<-hq]at c1 h2 H1 a2 a7;have c4:c<=9223372036854775807:=by unfold maxLen at a6;omega
  have HV:Hid (∀W:World,wr.grownBy W none->Calls Tryz.prog 64 #[.agg #[.slice ea q.length ec],.int .i64 letters] W (qCQ W 0 (xI q letters))):=Kh (fun W hW=>by
   have:=qQK B W _ q letters (h2.kept hW (by simp)) (by have:=hW.size;have:=HG.out.size;omega) H1;rw[a2]at this
   exact this)
  obtain⟨ql,H4⟩:=Nm q.length;obtain⟨D,hD⟩:=Nm (xI q letters);rw[<-H4]at c1 HV;rw[<-hD]at HV a7;have d9:=hg.size;clear H5 h3 h2 H1 hq hg H4 a2 hD;go_wp2_with fail;refine(HV.out _ (Ga wr _ none)).mono ?_;rintro e w1 ⟨f1,x1,rfl,a1,h7⟩;obtain⟨fa1,fl1,fc1,na1,nl1,nc1,rfl,rfl⟩:=a1.shapes;have H0:=Kh (zA (Ga wr (.cells #[.slice ea ql ec] 65) none) h7);have b8:=Kh a1;obtain⟨dl,a5⟩:=Nm D.letters;obtain⟨dst,H2⟩:=Nm D.start;rw[<-a5,<-H2];have d7:=Kh a5;have d6:=Kh H2;clear h7 a1 HV c1 a5 H2;obtain⟨w2,a0⟩:=Nm (w1.alloc (.cells #[.int .i64 dl,.int .i64 dst,.slice fa1 fl1 fc1,.slice na1 nl1 nc1] 30));have H7:=Ga w1 (.cells #[.int .i64 dl,.int .i64 dst,.slice fa1 fl1 fc1,.slice na1 nl1 nc1] 30) none;have h8:=heap_alloc_new w1 (.cells #[.int .i64 dl,.int .i64 dst,.slice fa1 fl1 fc1,.slice na1 nl1 nc1] 30);obtain⟨R,hR⟩:=Nm w1.heap.size;rw[<-a0]at H7 h8;rw[<-hR]at h8;have c9:=Kh (b8.out.grow H7);have a9:=Kh (zA H0.out H7);have H3:=Kh (b1.out.grow a9.out);have c7:=Kh a0;have d4:=Kh hR;obtain⟨d0,d1,d2,d3⟩:=zE h8;have e0:=a9.out.size;clear a0 hR H7 h8 b1 H0 b8;go_upto_region 13 with fail;rw[<-c7.out,<-d4.out];go_wp2_with (first|(at_builtin;refine jH rfl _ _ _ rfl iM w.heap.size (.slice sa k sc) k (jC l) rfl ?h0 [.int .i64 dl,.int .i64 dst,.slice fa1 fl1 fc1,.slice na1 nl1 nc1] rfl rfl ?h1 ?c1 ?c2 ?c3 ?_)|fail)
  case h0=>have:=H3.out.own;rw[H8.out]at this;exact this
  case h1=>intro u hu;simp at hu;rcases hu with rfl|rfl|rfl|rfl<;>rfl
  case c1=>unfold maxLen;omega
  case c2=>omega
  case c3=>have:=HG.out.size;omega
  intro sa' sc' w3 h5 a4;have b7:=H3.out.push (v':=.slice sa' (k+1) sc') (x:=(D,.slice fa1 fl1 fc1,.slice na1 nl1 nc1)) c9.out (by rw[H8.out];unfold dval;rw[<-d7.out,<-d6.out];exact h5) a4;have d8:=Kh b7;have d5:Hid (w.grownBy w3 none):=Kh (zA (zA HG.out a9.out) a4 (fun x e=>(H3.out.own.lt x e).1));clear h5 a4 b7;go_wp2;go_roundg (n-(k+1))
  case measure=>have:=h9.out;omega
  exact⟨k+1,sa',sc',l++[(D,.slice fa1 fl1 fc1,.slice na1 nl1 nc1)],by have:=h9.out;omega,by go_num,rfl,by rw[a7.out,List.map_append,H9.out];rfl,d8.out,by rw[List.length_append,H8.out];rfl,d5.out⟩
 have a3:k=n:=by have:=h9.out;omega
 have b5:¬(k:Int)<n:=(by omega);have HE:Hid (ps.take k=ps):=Kh (List.take_of_length_le (by rw[<-HN.out];omega));rw[HE.out]at H9;clear hg a3;go_wp2;refine bodyPost_ret (v:=.tuple #[.slice sa k sc,.int .i64 0]) (by simp[results,Tryz.results46,go_sem]) rfl ?_;exact⟨sa,k,sc,by rw[a8.out],HG.out,.inr ⟨a8.out,by rw[<-H9.out,List.length_map,H8.out],l,H9.out,b1.out⟩⟩
open Go.Maps
theorem DsO.dfa {B:Nat}{w:World}{g off k:Nat}{ds:List DfaV}(h:DsO B w g off ds)(a9:OkT ds k){i:Nat}(hi:i<ds.length):∃n fb fo fc b of2 cap RB RO RC,VD (ds.getD i dN) n k/\n<=512/\w.cell? ⟨g,off+i*4,none⟩=some (.int .i64 (k:Int))/\w.cell? ⟨g,off+i*4+1,none⟩=some (.int .i64 ((st0 (ds.getD i dN):Nat):Int))/\w.cell? ⟨g,off+i*4+2,none⟩=some (.slice (some ⟨fb,fo,none⟩) n fc)/\w.cell? ⟨g,off+i*4+3,none⟩=some (.slice (some ⟨b,of2,none⟩) n cap)/\DAt B w (ds.getD i dN) n k fb fo fc b of2 cap RB RO RC:=by
 obtain⟨n,hv,h5⟩:=a9 i hi;obtain⟨f,nx,h1,h2,h3,h4,hd⟩:=h.at_ i hi;obtain⟨fb,fo,fc,b,of2,cap,RB,RO,RC,e,h0⟩:=hd.at hv;rw[dAgg]at e;simp only[Value.agg.injEq]at e;have e:=congrArg Array.toList e;simp only[List.cons.injEq,and_true]at e;obtain⟨e1,e2,e3,e4⟩:=e;exact⟨n,fb,fo,fc,b,of2,cap,RB,RO,RC,hv,h5,by rw[h1,e1],by rw[h2,e2],by rw[h3,e3],by rw[h4,e4],h0⟩
theorem qTM {X:Nat->Prop}{w:World}{g n:Nat}{f:List Nat}(h:Arr w g 3 (nats f))(hn:f.length=n)(hm:n<=maxLen)(hX:X g):RowX X 3 w (.slice (some ⟨g,0,none⟩) n n) (nats f):=RowX.of_new h hn (Nat.le_refl _) hm hX
theorem qMP {w wr:World}{G np k:Nat}{pv:Value}{x0:List Nat}(hg:w.grownBy wr none)(hG:Arr wr G 3 (nats x0))(a7:w.heap.size<=G)(hx:x0.length=np)(a8:np<=4096){w5:World}(a9:w5=(((wr.alloc (.cells #[.slice (some ⟨G,0,none⟩) np np] 22)).alloc (.cells #[.int .i64 0] 3)).alloc (.cells #[.int .i64 0] 3)).alloc (.cells #[.int .i64 (k:Int),pv,.slice (some ⟨wr.heap.size,0,none⟩) 1 1,.slice none 0 0,.slice (some ⟨wr.heap.size+1,0,none⟩) 1 1,.slice (some ⟨wr.heap.size+1+1,0,none⟩) 1 1] 106)):BoxS w.heap.size (fun q=>q=G) (wr.heap.size+1+1+1) 106 w w5 (⟨w.heap.size,22,.slice (some ⟨wr.heap.size,0,none⟩) 1 1,1,[.slice (some ⟨G,0,none⟩) np np],1⟩::⟨w.heap.size,3,.slice none 0 0,0,nats [],1⟩::⟨w.heap.size,3,.slice (some ⟨wr.heap.size+1,0,none⟩) 1 1,1,nats [0],1⟩::⟨w.heap.size,3,.slice (some ⟨wr.heap.size+1+1,0,none⟩) 1 1,1,nats [0],1⟩::[]) #[.int .i64 (k:Int),pv,.slice (some ⟨wr.heap.size,0,none⟩) 1 1,.slice none 0 0,.slice (some ⟨wr.heap.size+1,0,none⟩) 1 1,.slice (some ⟨wr.heap.size+1+1,0,none⟩) 1 1] w5/\uX (fun q=>q=G) 3 nats w5 [.slice (some ⟨G,0,none⟩) np np] [x0]/\w.grownBy w5 none:=by
 obtain⟨w2,h2⟩:=Nm (wr.alloc (.cells #[.slice (some ⟨G,0,none⟩) np np] 22));obtain⟨w3,h1⟩:=Nm (w2.alloc (.cells #[.int .i64 0] 3));obtain⟨w4,h0⟩:=Nm (w3.alloc (.cells #[.int .i64 0] 3));have h4:w2.heap.size=wr.heap.size+1:=by rw[h2,zL]
 have h3:w3.heap.size=wr.heap.size+1+1:=by rw[h1,zL,h4]
 have h8:w4.heap.size=wr.heap.size+1+1+1:=by rw[h0,zL,h3]
 rw[<-h2,<-h1,<-h0]at a9;have g2:wr.grownBy w2 none:=by rw[h2];exact Ga _ _ _
 have g3:w2.grownBy w3 none:=by rw[h1];exact Ga _ _ _
 have g4:w3.grownBy w4 none:=by rw[h0];exact Ga _ _ _
 have g5:w4.grownBy w5 none:=by rw[a9];exact Ga _ _ _
 have h7:=hg.size;have h5:1<=maxLen:=by unfold maxLen;omega
 have o2:w2.ownsRow wr.heap.size 22 1 (.slice (some ⟨wr.heap.size,0,none⟩) 1 1) 1 [.slice (some ⟨G,0,none⟩) np np]:=by rw[h2];exact World.ownsRow_lit wr #[_] 1 (Nat.le_refl _) h5 rfl
 have o3:w3.ownsRow w2.heap.size 3 1 (.slice (some ⟨wr.heap.size+1,0,none⟩) 1 1) 1 (nats [0]):=by rw[h1,<-h4];exact World.ownsRow_lit w2 #[_] 1 (Nat.le_refl _) h5 rfl
 have o4:w4.ownsRow w3.heap.size 3 1 (.slice (some ⟨wr.heap.size+1+1,0,none⟩) 1 1) 1 (nats [0]):=by rw[h0,<-h3];exact World.ownsRow_lit w3 #[_] 1 (Nat.le_refl _) h5 rfl
 have m0:EMem (fun q=>q=G) wr []:=⟨fun r hr=>by simp at hr,List.Pairwise.nil,fun r hr=>by simp at hr,fun k hk=>by subst hk;exact hG.lt⟩;have m1:=m0.add g2 (r:=⟨w.heap.size,22,.slice (some ⟨wr.heap.size,0,none⟩) 1 1,1,[.slice (some ⟨G,0,none⟩) np np],1⟩) (yU (base':=w.heap.size) o2 h7) (fun k hk=>(o2.lt k hk).1);have m2:=m1.add (zH w2 none) (r:=⟨w.heap.size,3,.slice none 0 0,0,nats [],1⟩) (World.ownsRow_nil _ _ _ _) (fun k hk=>by simp[Value.ownBlock]at hk);have m3:=m2.add g3 (r:=⟨w.heap.size,3,.slice (some ⟨wr.heap.size+1,0,none⟩) 1 1,1,nats [0],1⟩) (yU (base':=w.heap.size) o3 (by rw[h4];omega)) (fun k hk=>(o3.lt k hk).1);have m4:=m3.add g4 (r:=⟨w.heap.size,3,.slice (some ⟨wr.heap.size+1+1,0,none⟩) 1 1,1,nats [0],1⟩) (yU (base':=w.heap.size) o4 (by rw[h3];omega)) (fun k hk=>(o4.lt k hk).1);have h9:=zA (zA (zA hg g2) g3) g4;have h6:=zA h9 g5
 have H0:w5.heap[wr.heap.size+1+1+1]?=some (.cells #[.int .i64 (k:Int),pv,.slice (some ⟨wr.heap.size,0,none⟩) 1 1,.slice none 0 0,.slice (some ⟨wr.heap.size+1,0,none⟩) 1 1,.slice (some ⟨wr.heap.size+1+1,0,none⟩) 1 1] 106 (0,0)):=by
  rw[a9,<-h8];exact heap_alloc_new w4 _
 have H1:=((((hG.kept g2 (by simp)).kept g3 (by simp)).kept g4 (by simp)).kept g5 (by simp));have H2:=hG.lt;refine⟨⟨m4.grow g5,fun r hr=>?_,H0,fun e=>by have e:wr.heap.size+1+1+1=G:=e;omega,Nat.le_refl _,by omega,by have:=g5.size;omega,h6,uH.refl _ _,Nat.le_refl _⟩,uX.nil.snoc (qTM H1 hx (by unfold maxLen;omega) rfl),h6⟩;simp only[List.nil_append,List.append_assoc,List.cons_append,List.mem_cons,List.not_mem_nil,or_false]at hr;have d1:(22:Nat)≠106:=by decide
 have d2:(3:Nat)≠106:=by decide
 rcases hr with rfl|rfl|rfl|rfl
 ·exact⟨rfl,d1⟩
 ·exact⟨rfl,d2⟩
 ·exact⟨rfl,d2⟩
 exact⟨rfl,d2⟩
section
variable {α:Type} {mt kt:TypeId} {V:α->Prop} {kv:α->Value} {w:World}
theorem MapK.upd [DecidableEq α]{w:World}{b n c:Nat}{f:α->Option Nat}(h:MapK kt V kv w b n c f)(K:KeyK mt kt V kv){z:α}{y:Nat}(hn:n<maxLen)(hz:V z)(hy:y<4611686018427387904):∃w' r,(Instr.mapUpdate mt (.map (some b)) (kv z) (.int .i64 (y:Int))).run Tryz.prog w=.ok r w'/\MapK kt V kv w' b (n+1) (if (f z).isSome then c else c+1) (fun q=>if q=z then some y else f q)/\w.grownBy w' (some b):=by
 obtain⟨D,h1,h2,h3⟩:=h;obtain⟨kl,h0⟩:=Option.isSome_iff_exists.1 (K.of z hz);obtain⟨w',h4,h5,h7⟩:=h1.update K.key K.und hn h0 (plainElem_int sP (qES (x:=(y:Int)) ⟨by omega,by omega⟩));refine⟨w',_,h4,⟨_,h5,?_,fun q ql hq hql=>?_⟩,h7⟩
 ·rw[size_put (h1.tidy K.key),(h3 z kl hz h0).1,h2]
 by_cases e:q=z
 ·subst e
  rw[h0]at hql;cases hql;refine⟨by rw[has_put_same h1.isMap (K.key.key h0)];simp,?_⟩;simp only[if_pos];rw[atKey_put_same h1.isMap (K.key.key h0)];rfl
 have h6:ql≠kl:=fun h=>e (K.inj q z hq hz (K.key.inj (hql.trans (congrArg some h)) h0));obtain⟨e1,e2⟩:=h3 q ql hq hql;simp only[if_neg e];exact⟨by rw[has_put_other h6,e1],by rw[atKey_put_other h6,e2]⟩
end
section
variable {X:Nat->Prop} {B o ty:Nat} {w0 wk w w':World} {rs:List RowS} {c:Array Value}
theorem BoxS.retire {r:RowS}(h:BoxS B X o ty w0 wk (rs++[r]) c w):BoxS B (fun k=>X k\/r.v.ownBlock=some k) o ty w0 w rs c w :=
 ⟨h.mem.retire,fun s hs=>h.typ s (List.mem_append_left _ hs),h.box,fun e=>by
  rcases e with e|e
  ·exact h.off e
  ·exact absurd e (zO (h.mem.own r (by simp)) h.box (h.typ r (by simp)).2),h.size,h.old,Nat.le_trans h.base h.wk,h.grown,uH.refl _ _,Nat.le_refl _⟩
end
section
variable {w0 w w':World} {B o mb k np m q rb:Nat} {pv:Value} {L:List (List Nat)} {nxl fr bl xs:List Nat}
theorem ProdS.open_ (h:ProdS w0 B o mb k np pv L nxl fr bl m q (⟨B,3,.slice (some ⟨rb,0,none⟩) np np,np,nats xs,1⟩::[]) w)(hg:w.grownBy w' (some mb))(hb:∃es clock,w'.heap[mb]?=some (.map es clock)):∃X hs sS sN sF sB cS cN cF cB,BoxS B (fun j=>X j\/j=mb) o 106 w0 w' (⟨B,22,.slice sS m cS,m,hs,1⟩::⟨B,3,.slice sN q cN,q,nats nxl,1⟩::⟨B,3,.slice sF m cF,m,nats fr,1⟩::⟨B,3,.slice sB m cB,m,nats bl,1⟩::[]) #[.int .i64 (k:Int),pv,.slice sS m cS,.slice sN q cN,.slice sF m cF,.slice sB m cB] w'/\uX X 3 nats w' (hs++[.slice (some ⟨rb,0,none⟩) np np]) (L++[xs])/\uX X 3 nats w' hs L/\¬X mb/\w0.heap.size<=mb/\(L.length=m/\nxl.length=q/\fr.length=m/\bl.length=m)/\hs.length=m:=by
 obtain⟨X,hs,sS,sN,sF,sB,cS,cN,cF,cB,u,c,hB,hE,hM,h4,h5,hu,hl,H0⟩:=h
 have h1:o≠mb:=fun e=>by
  obtain⟨es,clock,hb⟩:=hM.obj;have:=hB.box;rw[e,hb]at this;simp at this
 have h0:=hB.far hg (fun r hr=>yL (es:=#[]) (clock:=0) (hB.mem.own r hr) hM.obj) h4 h1 h5;have h9:=h0.kept;have h3:=h0.wk;have h2:=h0.rebase;have H2:RowX (fun j=>X j\/(Value.slice (some ⟨rb,0,none⟩) np np).ownBlock=some j) 3 w' (.slice (some ⟨rb,0,none⟩) np np) (nats xs):=RowX.of_owns (h2.own (r:=⟨B,3,.slice (some ⟨rb,0,none⟩) np np,np,nats xs,1⟩) (by simp)) (fun j hj=>.inr hj);have h6:=BoxS.retire (rs:=(⟨B,22,.slice sS m cS,m,hs,1⟩::⟨B,3,.slice sN q cN,q,nats nxl,1⟩::⟨B,3,.slice sF m cF,m,nats fr,1⟩::⟨B,3,.slice sB m cB,m,nats bl,1⟩::[])) (r:=⟨B,3,.slice (some ⟨rb,0,none⟩) np np,np,nats xs,1⟩) h2;have h8:mb<w'.heap.size:=Nat.lt_of_lt_of_le hM.lt h3;have H1:=h6.stand h8 (fun r hr=>yL (es:=#[]) (clock:=0) (h6.mem.own r hr) hb) h1;have h7:=(hE.kept h9 h3).mono (X':=fun j=>X j\/(Value.slice (some ⟨rb,0,none⟩) np np).ownBlock=some j) (fun j hj=>.inl hj);refine⟨_,hs,sS,sN,sF,sB,cS,cN,cF,cB,H1,h7.snoc H2,h7,fun e=>?_,h5,hl,H0⟩;rcases e with e|e
 ·exact h4 e
 exact yL (es:=#[]) (clock:=0) (h2.own (r:=⟨B,3,.slice (some ⟨rb,0,none⟩) np np,np,nats xs,1⟩) (by simp)) hb e
theorem aK {X:Nat->Prop}{wk:World}{hs:List Value}{sS sN sF sB:Option Addr}{cS cN cF cB u c:Nat}(hB:BoxS B (fun j=>X j\/j=mb) o 106 w0 wk (⟨B,22,.slice sS m cS,m,hs,1⟩::⟨B,3,.slice sN q cN,q,nats nxl,1⟩::⟨B,3,.slice sF m cF,m,nats fr,1⟩::⟨B,3,.slice sB m cB,m,nats bl,1⟩::[]) #[.int .i64 (k:Int),pv,.slice sS m cS,.slice sN q cN,.slice sF m cF,.slice sB m cB] w)(hE:uX X 3 nats wk hs L)(hM:MapK 9 (pA np) (fun l=>.string (txtT (kb l))) wk mb u c (numE L))(a9:¬X mb)(a8:w0.heap.size<=mb)(hu:u<=m)(hl:L.length=m/\nxl.length=q/\fr.length=m/\bl.length=m)(a7:hs.length=m):ProdS w0 B o mb k np pv L nxl fr bl m q [] w :=
 ⟨X,hs,sS,sN,sF,sB,cS,cN,cF,cB,u,c,(hB.less (fun j h=>.inl h)).rebase,hE.kept (fun j hj=>hB.kept j (.inl hj)) hB.wk,hM.of_block (hB.kept mb (.inr rfl)),a9,a8,hu,hl,a7⟩
end
abbrev KR (l:List Nat):Value:=.string (txtT (kbR l))
inductive RPr (w0:World)(B o mb np:Nat)(pv:Value)(L T:List (List Nat))(m q:Nat)(tl:List RowS)(w:World):Prop
 | mk (X:Nat->Prop) (hs hn:List Value) (sS sN:Option Addr) (cS cN u c:Nat)
  (hB:BoxS B X o 120 w0 w (⟨B,22,.slice sS m cS,m,hs,1⟩::⟨B,22,.slice sN q cN,q,hn,1⟩::tl) #[pv,.slice sS m cS,.slice sN q cN] w)
  (hE:uX X 3 nats w hs L) (hN:uX X 3 nats w hn T) (hM:MapK 9 (pA np) KR w mb u c (numE L)) (hmx:¬X mb) (hmb:w0.heap.size<=mb) (hu:u<=2*m)
  (hl:L.length=m/\T.length=q) (hhs:hs.length=m/\hn.length=q) (hlo:∀j,X j->B<=j)
section
variable {w0 w w' w1:World} {B o mb np m q:Nat} {pv:Value} {L T:List (List Nat)} {tl:List RowS}
theorem RPr.grow (h:RPr w0 B o mb np pv L T m q tl w)(hg:w.grownBy w' none):RPr w0 B o mb np pv L T m q tl w':=by
 obtain⟨X,hs,hn,sS,sN,cS,cN,u,c,hB,hE,hN,hM,h1,h2,hu,hl,h4,h3⟩:=h;have h0:=hB.mem.keep hg;exact⟨X,hs,hn,sS,sN,cS,cN,u,c,(hB.grow hg).rebase,hE.kept h0 hg.size,hN.kept h0 hg.size,hM.kept hg (by simp),h1,h2,hu,hl,h4,h3⟩
theorem RPr.facts (h:RPr w0 B o mb np pv L T m q tl w):w0.grownBy w none/\B<=w.heap.size/\w0.heap.size<=B/\w0.heap.size<=o/\o<w.heap.size/\L.length=m/\T.length=q:=by
 obtain⟨X,hs,hn,sS,sN,cS,cN,u,c,hB,hE,hN,hM,h0,h1,hu,hl,h3,h2⟩:=h;exact⟨hB.grown,Nat.le_trans hB.base hB.wk,hB.size,hB.old,zM hB.box,hl.1,hl.2⟩
theorem RPr.map (h:RPr w0 B o mb np pv L T m q tl w):∃u c,u<=2*m/\MapK 9 (pA np) KR w mb u c (numE L):=by
 obtain⟨X,hs,hn,sS,sN,cS,cN,u,c,hB,hE,hN,hM,h0,h1,hu,hl,h3,h2⟩:=h;exact⟨u,c,hu,hM⟩
theorem RPr.cells (h:RPr w0 B o mb np pv L T m q tl w):∃sS cS sN cN,w.heap[o]?=some (.cells #[pv,.slice sS m cS,.slice sN q cN] 120 (0,0))/\(0<m->∃sb,sS=some ⟨sb,0,none⟩/\m<=cS/\cS<=maxLen/\∀i,i<m->L.getD i []≠[]->∃g off cap,w.cell? ⟨sb,i,none⟩=some (.slice (some ⟨g,off,none⟩) (L.getD i []).length cap)/\(L.getD i []).length<=cap/\cap<=maxLen/\∀j,j<(L.getD i []).length->w.cell? ⟨g,off+j,none⟩=some (.int .i64 (((L.getD i []).getD j 0:Nat):Int))):=by
 obtain⟨X,hs,hn,sS,sN,cS,cN,u,c,hB,hE,hN,hM,h9,H0,hu,hl,H2,H1⟩:=h;refine⟨sS,cS,sN,cN,hB.box,fun h0=>?_⟩;have ho:=hB.own (r:=⟨B,22,.slice sS m cS,m,hs,1⟩) (by simp);simp only at ho;obtain⟨sb,rfl,h1,h2,ha⟩:=yH ho h0;refine⟨sb,rfl,h1,h2,fun i hi hne=>?_⟩;have h4:i<hs.length:=by omega
 have hr:=hE.2 i h4 (by omega);have h6:L.getD i []=L[i]'(by omega):=zG (by omega)
 have h3:0<(nats (L[i]'(by omega))).length:=by
  rw[zV,<-h6];exact List.length_pos_iff.2 hne
 rw[h6];obtain⟨g,off,cap,e,H3,h5,h8,h7⟩:=hr.1.row.some_ h3;rw[zV]at e h5;refine⟨g,off,cap,?_,h5,h8,fun j hj=>h7.nat j hj⟩;rw[ha.cell i h4,e]
theorem RPr.addRow (h:RPr w0 B o mb np pv L T m q tl w)(hg:w.grownBy w' none){e sz n:Nat}{v:Value}{xs:List Value}(ho:w'.ownsRow w.heap.size e sz v n xs)(he:e≠120):RPr w0 B o mb np pv L T m q (tl++[⟨B,e,v,n,xs,sz⟩]) w':=by
 obtain⟨X,hs,hn,sS,sN,cS,cN,u,c,hB,hE,hN,hM,h1,h2,hu,hl,h4,h3⟩:=h;have h0:=hB.mem.keep hg;exact⟨X,hs,hn,sS,sN,cS,cN,u,c,(hB.add hg ho he).rebase,hE.kept h0 hg.size,hN.kept h0 hg.size,hM.kept hg (by simp),h1,h2,hu,hl,h4,h3⟩
theorem RPr.own (h:RPr w0 B o mb np pv L T m q tl w){r:RowS}(hr:r∈tl):w.ownsRow r.base r.e r.sz r.v r.n r.xs:=by
 obtain⟨X,hs,hn,sS,sN,cS,cN,u,c,hB,hE,hN,hM,h0,h1,hu,hl,h3,h2⟩:=h;exact hB.own (List.mem_cons_of_mem _ (List.mem_cons_of_mem _ hr))
theorem RPr.app (h:RPr w0 B o mb np pv L T m q tl w){j:Nat}{r:RowS}(hr:tl[j]?=some r){v':Value}{n':Nat}{us:List Value}(ho:w'.ownsRow r.base r.e r.sz v' n' (r.xs++us))(hg:w.grownBy w' r.v.ownBlock)(hm:pG w w' r.v v'):RPr w0 B o mb np pv L T m q (tl.set j ⟨r.base,r.e,v',n',r.xs++us,r.sz⟩) w':=by
 obtain⟨X,hs,hn,sS,sN,cS,cN,u,c,hB,hE,hN,hM,h3,h4,hu,hl,h6,h5⟩:=h;have h0:=List.mem_of_getElem? hr;have h1:r.v.ownBlock≠some mb:=yL (es:=#[]) (clock:=0) (hB.own (List.mem_cons_of_mem _ (List.mem_cons_of_mem _ h0))) hM.obj;have h2:=hB.appAt (j:=j+2) hr ho hg hm;exact⟨X,hs,hn,sS,sN,cS,cN,u,c,h2.rebase,hE.kept h2.kept h2.wk,hN.kept h2.kept h2.wk,hM.kept hg h1,h3,h4,hu,hl,h6,h5⟩
theorem RPr.off (h:RPr w0 B o mb np pv L T m q tl w):o≠mb:=by
 obtain⟨X,hs,hn,sS,sN,cS,cN,u,c,hB,hE,hN,hM,h0,h1,hu,hl,h3,h2⟩:=h;intro e;obtain⟨es,clock,hb⟩:=hM.obj;have:=hB.box;rw[e,hb]at this;simp at this
theorem RPr.pushS {r:RowS}{v:Value}{xs:List Nat}{n u c:Nat}(h:RPr w0 B o mb np pv L T m q (r::⟨B,3,v,n,nats xs,1⟩::[]) w)(hg:w.grownBy w1 (some mb))(a9:MapK 9 (pA np) KR w1 mb u c (numE (L++[xs])))(a8:u<=2*m+1):∃hs sS cS,w1.ownsRow B 22 1 (.slice sS m cS) m hs/\w1.cell? ⟨o,1,none⟩=some (.slice sS m cS)/\B<=w1.heap.size/\∀w2 s' c',w2.ownsRow B 22 1 (.slice s' (m+1) c') (m+1) (hs++[v])->w1.grownBy w2 (Value.slice sS m cS).ownBlock->pG w1 w2 (.slice sS m cS) (.slice s' (m+1) c')->w2.cell? ⟨o,1,none⟩=some (.slice sS m cS)/\w2.frozen? ⟨o,1,none⟩=false/\RPr w0 B o mb np pv (L++[xs]) T (m+1) q (r::[]) (w2.setCell ⟨o,1,none⟩ (.slice s' (m+1) c')):=by
 have h2:=h.off;obtain⟨X,hs,hn,sS,sN,cS,cN,u0,c0,hB,hE,hN,hM,h5,h6,hu,hl,h7,H3⟩:=h;have h0:=hB.far hg (fun r hr=>yL (es:=#[]) (clock:=0) (hB.mem.own r hr) hM.obj) h5 h2 h6;have H1:=h0.rebase;have H8:=hE.kept h0.kept h0.wk;have H6:=hN.kept h0.kept h0.wk;have h1:=H1.own (r:=⟨B,3,v,n,nats xs,1⟩) (by simp);have H2:v.ownBlock≠some mb:=yL (es:=#[]) (clock:=0) h1 a9.obj
 have h3:∀j,(X j\/v.ownBlock=some j)->B<=j:=fun j hj=>by
  rcases hj with hj|hj
  ·exact H3 j hj
  exact(h1.lt j hj).1
 have hR:=BoxS.retire (rs:=(⟨B,22,.slice sS m cS,m,hs,1⟩::⟨B,22,.slice sN q cN,q,hn,1⟩::r::[])) (r:=⟨B,3,v,n,nats xs,1⟩) H1;have h8:=zJ hR.box 1;simp only[sPd,sPe,sPf]at h8;have H5:RowX (fun j=>X j\/v.ownBlock=some j) 3 w1 v (nats xs):=RowX.of_owns h1 (fun j hj=>.inr hj);have h4:=hR.own (r:=⟨B,22,.slice sS m cS,m,hs,1⟩) (by simp);have H4:(Value.slice sS m cS).ownBlock≠some mb:=yL (es:=#[]) (clock:=0) h4 a9.obj;refine⟨hs,sS,cS,h4,h8,Nat.le_trans hR.base hR.wk,fun w2 s' c' hown hg2 hmv=>?_⟩;have hA:=hR.appAt (j:=0) rfl hown hg2 hmv;have h9:=zJ hA.box 1;simp only[sPd,sPe,sPf]at h9;have hZ:=hA.set 1 (.slice s' (m+1) c');have H0:=fun j hj=>hZ.kept j hj;have H7:=(a9.kept hg2 H4).kept (zD w2 ⟨o,1,none⟩ (.slice s' (m+1) c')) (fun e=>h2 (Oj e));refine⟨h9,zF hA.box 1,⟨_,hs++[v],hn,s',sN,c',cN,u,c,hZ.rebase,((H8.mono (fun j hj=>.inl hj)).snoc H5).kept H0 hZ.wk,(H6.mono (fun j hj=>.inl hj)).kept H0 hZ.wk,H7,fun e=>?_,h6,by omega,⟨by rw[List.length_append,hl.1];rfl,hl.2⟩,⟨by rw[List.length_append,h7.1];rfl,h7.2⟩,h3⟩⟩;rcases e with e|e
 ·exact h5 e
 exact H2 e
theorem RPr.pushN {v:Value}{xs:List Nat}{n:Nat}(h:RPr w0 B o mb np pv L T m q (⟨B,3,v,n,nats xs,1⟩::[]) w):∃hs sN cN,w.ownsRow B 22 1 (.slice sN q cN) q hs/\w.cell? ⟨o,2,none⟩=some (.slice sN q cN)/\B<=w.heap.size/\∀w2 s' c',w2.ownsRow B 22 1 (.slice s' (q+1) c') (q+1) (hs++[v])->w.grownBy w2 (Value.slice sN q cN).ownBlock->pG w w2 (.slice sN q cN) (.slice s' (q+1) c')->w2.cell? ⟨o,2,none⟩=some (.slice sN q cN)/\w2.frozen? ⟨o,2,none⟩=false/\RPr w0 B o mb np pv L (T++[xs]) m (q+1) [] (w2.setCell ⟨o,2,none⟩ (.slice s' (q+1) c')):=by
 have h1:=h.off;obtain⟨X,hs,hn,sS,sN,cS,cN,u,c,hB,hE,hN,hM,h9,H0,hu,hl,h4,H1⟩:=h;have h0:=hB.own (r:=⟨B,3,v,n,nats xs,1⟩) (by simp);have h8:v.ownBlock≠some mb:=yL (es:=#[]) (clock:=0) h0 hM.obj
 have h2:∀j,(X j\/v.ownBlock=some j)->B<=j:=fun j hj=>by
  rcases hj with hj|hj
  ·exact H1 j hj
  exact(h0.lt j hj).1
 have hR:=BoxS.retire (rs:=(⟨B,22,.slice sS m cS,m,hs,1⟩::⟨B,22,.slice sN q cN,q,hn,1⟩::[])) (r:=⟨B,3,v,n,nats xs,1⟩) hB;have h5:=zJ hR.box 2;simp only[sPd,sPe,sPf]at h5;have H2:RowX (fun j=>X j\/v.ownBlock=some j) 3 w v (nats xs):=RowX.of_owns h0 (fun j hj=>.inr hj);have h3:=hR.own (r:=⟨B,22,.slice sN q cN,q,hn,1⟩) (by simp);have H3:(Value.slice sN q cN).ownBlock≠some mb:=yL (es:=#[]) (clock:=0) h3 hM.obj;refine⟨hn,sN,cN,h3,h5,Nat.le_trans hR.base hR.wk,fun w2 s' c' hown hg2 hmv=>?_⟩;have hA:=hR.appAt (j:=1) rfl hown hg2 hmv;have h6:=zJ hA.box 2;simp only[sPd,sPe,sPf]at h6;have hZ:=hA.set 2 (.slice s' (q+1) c');have h7:=fun j hj=>hZ.kept j hj;have H4:=(hM.kept hg2 H3).kept (zD w2 ⟨o,2,none⟩ (.slice s' (q+1) c')) (fun e=>h1 (Oj e));refine⟨h6,zF hA.box 2,⟨_,hs,hn++[v],sS,s',cS,c',u,c,hZ.rebase,(hE.mono (fun j hj=>.inl hj)).kept h7 hZ.wk,((hN.mono (fun j hj=>.inl hj)).snoc H2).kept h7 hZ.wk,H4,fun e=>?_,H0,hu,⟨hl.1,by rw[List.length_append,hl.2];rfl⟩,⟨h4.1,by rw[List.length_append,h4.2];rfl⟩,h2⟩⟩;rcases e with e|e
 ·exact h9 e
 exact h8 e
theorem RPr.drop {r:RowS}(h:RPr w0 B o mb np pv L T m q (tl++[r]) w):RPr w0 B o mb np pv L T m q tl w:=by
 obtain⟨X,hs,hn,sS,sN,cS,cN,u,c,hB,hE,hN,hM,h3,h4,hu,hl,h6,h5⟩:=h;have h0:=hB.own (r:=r) (by simp);have h2:r.v.ownBlock≠some mb:=yL (es:=#[]) (clock:=0) h0 hM.obj
 have h1:∀j,(X j\/r.v.ownBlock=some j)->B<=j:=fun j hj=>by
  rcases hj with hj|hj
  ·exact h5 j hj
  rw[<-(hB.typ r (by simp)).1];exact(h0.lt j hj).1
 have hR:=BoxS.retire (rs:=(⟨B,22,.slice sS m cS,m,hs,1⟩::⟨B,22,.slice sN q cN,q,hn,1⟩::tl)) (r:=r) hB;refine⟨_,hs,hn,sS,sN,cS,cN,u,c,hR,hE.mono (fun j hj=>.inl hj),hN.mono (fun j hj=>.inl hj),hM,fun e=>?_,h4,hu,hl,h6,h1⟩;rcases e with e|e
 ·exact h3 e
 exact h2 e
def bK (B:Nat)(w:World)(v pv:Value)(L T:List (List Nat)):Prop:=∃sS sN cS cN hs hn,v=.agg #[pv,.slice sS L.length cS,.slice sN T.length cN]/\w.ownsRow B 22 1 (.slice sS L.length cS) L.length hs/\w.ownsRow B 22 1 (.slice sN T.length cN) T.length hn/\wO w.heap.size 3 nats w hs L/\wO w.heap.size 3 nats w hn T
theorem RPr.val (h:RPr w0 B o mb np pv L T m q tl w):∃sS sN cS cN,w.heap[o]?=some (.cells #[pv,.slice sS L.length cS,.slice sN T.length cN] 120 (0,0))/\∀w2 row,w.grownBy w2 row->(∀j,row=some j->j<B)->bK B w2 (.agg #[pv,.slice sS L.length cS,.slice sN T.length cN]) pv L T:=by
 obtain⟨X,hs,hn,sS,sN,cS,cN,u,c,hB,hE,hN,hM,h1,h2,hu,⟨rfl,rfl⟩,h3,h0⟩:=h;refine⟨sS,sN,cS,cN,hB.box,fun w2 row hg hr=>?_⟩;have hk:uH X w w2:=uH.of_grown hB.mem.lt hg (fun j e hx=>by have:=hr j e;have:=h0 j hx;omega);exact⟨sS,sN,cS,cN,hs,hn,rfl,zX (hB.own (r:=⟨B,22,.slice sS L.length cS,L.length,hs,1⟩) (by simp)) hg hr,zX (hB.own (r:=⟨B,22,.slice sN T.length cN,T.length,hn,1⟩) (by simp)) hg hr,(hE.kept hk hg.size).rowsT,(hN.kept hk hg.size).rowsT⟩
end
end Go.Proofs.YtcoimliafiammaaGreat
