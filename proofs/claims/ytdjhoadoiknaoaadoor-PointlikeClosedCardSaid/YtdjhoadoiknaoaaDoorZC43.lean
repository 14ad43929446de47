/- Part 43 of the proof: CheckD, AgPlain. -/
import Derived.Test.YtdjhoadoiknaoaaDoorZC42
set_option linter.unusedVariables false
set_option linter.unusedSimpArgs false
namespace Go.Proofs.YtdjhoadoiknaoaaDoor
open Go.RowKit
theorem cell_still {w w':World} {p:Addr} {u:Value} {row:Option Nat} (h:w.cell? p=some u) (hg:w.grownBy w' row) (hr:∀ k,row=some k→k≠p.block):w'.cell? p=some u:=(World.cell?_of_block (hg.block p.block (World.block_lt_of_cell? w p h) (fun e=>hr _ e.symm rfl))).trans h
theorem wG {w:World} {p e:Nat} {x0 x1 x2 x3 x4:Value} (h:w.heap[p]?=some (.cells #[x0,x1,x2,x3,x4] e (0,0))):w.cell? ⟨p,0,none⟩=some x0∧w.cell? ⟨p,1,none⟩=some x1∧w.cell? ⟨p,2,none⟩=some x2∧w.cell? ⟨p,3,none⟩=some x3∧w.cell? ⟨p,4,none⟩=some x4:=by
 have c0:=zI h 0 (by simp)
 have c1:=zI h 1 (by simp)
 have c2:=zI h 2 (by simp)
 have c3:=zI h 3 (by simp)
 have c4:=zI h 4 (by simp)
 exact ⟨by simpa using c0,by simpa using c1,by simpa using c2,by simpa using c3,by simpa using c4⟩
theorem lK {t:List (List Int)} {im:List Int} {ss:List StepV} {i:Nat} {st:StepV} (e:st=ss.getD i default) (h1:st.op≠1) (h2:st.op≠2) (h3:st.op≠3):stepB t im ss i=false:=by
 subst e;simp only [stepB];rw [if_neg h1,if_neg h2,if_neg h3]
theorem pD {t:List (List Int)} {im:List Int} {ss:List StepV} {i:Nat} {st:StepV} (e:st=ss.getD i default) (h1:st.op=1):stepB t im ss i=(decide (st.a=0) && decide (st.b=0) && yH st.word im.length && decide (st.set=((2 ^ walkV t im (oneN t) st.word.data.toList:Nat):Int))):=by
 subst e;simp only [stepB];rw [if_pos h1]
theorem rL {t:List (List Int)} {im:List Int} {ss:List StepV} {i:Nat} {st:StepV} (e:st=ss.getD i default) (h1:st.op=2):stepB t im ss i=(st.word.toList.isEmpty && befB st.a i && befB st.b i && decide (st.set=((zP t.length (entN t) (ss.getD st.a.toNat default).set.toNat (ss.getD st.b.toNat default).set.toNat:Nat):Int))):=by
 subst e;simp only [stepB];rw [if_neg (by omega),if_pos h1]
theorem oY {t:List (List Int)} {im:List Int} {ss:List StepV} {i:Nat} {st:StepV} (e:st=ss.getD i default) (h1:st.op=3):stepB t im ss i=(st.word.toList.isEmpty && befB st.a i && decide (st.b=0) && decide (st.set=((yC t.length (entN t) (ss.getD st.a.toNat default).set.toNat:Nat):Int))):=by
 subst e;simp only [stepB];rw [if_neg (by omega),if_neg (by omega),if_pos h1]
theorem nI {P:Program} {f:FuncId} {args:Array Value} {w:World} {n:Nat} {v:Value} (h:Calls P f args (w.drewN n) fun e w'=>e=.returned v∧∃ m,w'=(w.drewN n).drewN m):Calls P f args (w.drewN n) fun e w''=>e=.returned v∧∃ m,w''=w.drewN m :=
 h.mono fun _ _ ⟨he,m,hm⟩=>⟨he,n+m,by rw [hm,World.drewN_drewN]⟩
set_option maxRecDepth 100000 in
set_option maxHeartbeats 2000000 in
theorem checkD_any (B:Nat) (w:World) (v iv sv:Value) (t:List (List Int)) (im:List Int) (ss:List StepV) (hB:B≤w.heap.size) (h:Mat B w v t) (hi:Row B w iv (ints im)) (hs:SRow B w sv ss) (hw:∀ i,i < ss.length→(ss.getD i default).word.size≤maxLen) (hT:TabOk w) :
  Calls Tryd.prog 35 #[v,iv,sv] w fun e w'=>e=.returned (.bool (derB t im ss))∧w.grownBy w' none:=by
 have hsl:=hs.len_le
 unfold maxLen at hsl
 have HCH:=Kh (mM B w v iv t im hB h hi)
 have H:=Kh h;have HI:=Kh hi;have HS:=Kh hs;have HW:=Kh hw;have HT:=Kh hT
 obtain ⟨ta,tc,rfl⟩:=h.shape
 obtain ⟨ia,ic,rfl⟩:=hi.shape
 obtain ⟨sa,sc,rfl⟩:=hs.shape
 rw [zM] at HCH HI ⊢
 clear h hi hs hw hT
 go_enter Tryd.func35,Tryd.ntmps35
 go_wp2_with fail
 refine HCH.out.mono ?_
 rintro e w1 ⟨rfl,hg1⟩
 have HG1:=Kh hg1
 clear HCH hg1
 by_cases hz:yO t im≠0
 ·have HD:=Kh (derB_check (ss:=ss) hz)
  obtain ⟨E,hE⟩:∃ E,E=yO t im:=⟨_,rfl⟩
  rw [← hE] at hz ⊢
  have e1:(E != 0)=true:=by rw [bne_iff_ne];exact hz
  clear hE hz
  go_wp2
  go_ret
  exact ⟨zT HD.out.symm,HG1.out⟩
 replace hz:yO t im=0:=by omega
 rw [hz]
 by_cases hl:ss.length=0
 ·have HD:=Kh (derB_nil (t:=t) (im:=im) hl)
  have e1:((ss.length:Int) == 0)=true:=by rw [hl];rfl
  clear hz
  go_wp2
  go_ret
  exact ⟨zT HD.out.symm,HG1.out⟩
 have hgd:=wV.1 hz
 have e1:((ss.length:Int) == 0)=false:=by rw [beq_eq_false_iff_ne];omega
 have hle:=hgd.le
 have hva:=hgd.valid
 have HZ:=Kh hz;have HGD:=Kh hgd;have HVA:=Kh hva;have HTB:=Kh (tb_of hva);have HSH:=Kh (uE hva).1
 obtain ⟨gb,go_,gcap,ge,hgB,hgc,hgm,hso⟩:=HS.out.some_ (by omega)
 simp only [Value.slice.injEq] at ge
 obtain ⟨rfl,_,rfl⟩:=ge
 have HSO:=Kh hso
 have hgm':sc≤9223372036854775807:=by unfold maxLen at hgm;omega
 have HN:=Kh (tY B w1 _ t (by have:=HG1.out.size;omega) (H.out.kept HG1.out (by simp)) hva hle (HT.out.kept HG1.out (by simp)))
 clear hz hgd hva hso hgm
 go_wp2_with fail
 refine HN.out.mono ?_
 rintro e w2 ⟨p,go,rfl,hs2,hg2⟩
 have HG2:=Kh (zF HG1.out hg2 (by simp))
 have HS2:=Kh hs2
 have HID:=Kh (oK B w2 _ t (by have:=HG2.out.size;omega) (H.out.kept HG2.out (by simp)))
 rw [qP HVA.out,(oC HGD.out).2] at HID
 have hz12:=HG1.out.size
 have hz2:=hg2.size
 have hgo:=hs2.go_lt
 clear HN hs2 hg2
 go_wp2_with fail
 refine HID.out.mono ?_
 rintro e w3 ⟨rfl,hg3⟩
 have HG3:=Kh (zF HG2.out hg3 (by simp))
 have HS3:=Kh (HS2.out.kept hg3 (by simp))
 have HZ3:=Kh hg3.size
 clear HID hg3
 go_wp2
 go_loopg [27] ss.length (fun gh i wr=>∃ (k:Nat),gh+k=ss.length∧i=.int .i64 (k:Int)∧Hid (tU t im ss k)∧wH w1.heap.size w2.heap.size wr p go t.length (entN t)∧w.grownBy wr none∧w2.heap.size≤wr.heap.size)
 case atStart=>exact ⟨0,rfl,rfl,Kh (fun i hi=>absurd hi (by omega)),HS3.out,HG3.out,HZ3.out⟩
 case round =>
  clear HS3 HG3 HZ3
  obtain ⟨k,hgh,rfl,hst,hsr,hgr,hzr⟩:=hrel
  have HGH:=Kh hgh;have HSR:=Kh hsr;have HGR:=Kh hgr
  clear hgh hsr hgr
  by_cases hk:¬ k < ss.length
  ·have HD:=Kh (lW HZ.out (by omega) (fun i hi=>hst.out i (by have:=HGH.out;omega)))
   go_wp2
   go_ret
   exact ⟨zT HD.out.symm,HGR.out⟩
  replace hk:k < ss.length:=by omega
  have hk':(k:Int) < ss.length:=by omega
  have hso:=HSO.out.kept HGR.out (by simp)
  have c0:=hso.op k hk
  have c1:=hso.a k hk
  have c2:=hso.b k hk
  have c3:=hso.word k hk
  have c4:=hso.set k hk
  obtain ⟨st,hst0⟩:∃ st,st=ss.getD k default:=⟨_,rfl⟩
  rw [← hst0] at c0 c1 c2 c3 c4
  have HST:=Kh hst0
  have HWZ:Hid (st.word.size≤maxLen):=Kh (by rw [hst0];exact HW.out k hk)
  clear hst0 hso
  obtain ⟨wb,hwb⟩:∃ W,W=wr.alloc (.cells #[.int .i64 st.op,.int .i64 st.a,.int .i64 st.b,.string st.word,.int .i64 st.set] 60):=⟨_,rfl⟩
  have hgb:wr.grownBy wb none:=by rw [hwb];exact Ga wr _ none
  have hbb:=heap_alloc_new wr (.cells #[.int .i64 st.op,.int .i64 st.a,.int .i64 st.b,.string st.word,.int .i64 st.set] 60)
  rw [← hwb] at hbb
  obtain ⟨o,ho⟩:∃ o,o=wr.heap.size:=⟨_,rfl⟩
  rw [← ho] at hbb
  have HWB:=Kh hwb;have HO:=Kh ho;have HBB:=Kh hbb
  have HGB:=Kh (zF HGR.out hgb (by simp));have HSB:=Kh (HSR.out.kept hgb (by simp))
  have hzb:w2.heap.size≤wb.heap.size:=Nat.le_trans hzr hgb.size
  have hoz:w2.heap.size≤o:=by omega
  clear hwb hgb hbb ho
  go_upto_region 8 with fail
  rw [← HWB.out,← HO.out]
  clear c0 c1 c2 c3 c4
  obtain ⟨b0,b1,b2,b3,b4⟩:=wG HBB.out
  by_cases hp1:st.op=1
  ·have q1:(st.op == 1)=true:=by rw [hp1];rfl
   have HB:=Kh (pD (t:=t) (im:=im) HST.out hp1)
   clear hp1
   by_cases ha:st.a≠0
   ·have qa:(st.a == 0)=false:=by rw [beq_eq_false_iff_ne];exact ha
    have HD:Hid (derB t im ss=false):=Kh (xS hk (by rw [HB.out];simp [ha]))
    go_wp2
    go_quiet (fail)
    go_wp2
    go_ret
    exact ⟨zT HD.out.symm,zF HGB.out (zJ wb _ none) (by simp)⟩
   replace ha:st.a=0:=by omega
   have qa:(st.a == 0)=true:=by rw [ha];rfl
   by_cases hb:st.b≠0
   ·have qb:(st.b == 0)=false:=by rw [beq_eq_false_iff_ne];exact hb
    have HD:Hid (derB t im ss=false):=Kh (xS hk (by rw [HB.out];simp [hb]))
    go_wp2
    go_quiet (fail)
    go_wp2
    go_ret
    exact ⟨zT HD.out.symm,zF HGB.out (zJ wb _ none) (by simp)⟩
   replace hb:st.b=0:=by omega
   have qb:(st.b == 0)=true:=by rw [hb];rfl
   obtain ⟨wv,hwv⟩:∃ wv,wv=yH st.word im.length:=⟨_,rfl⟩
   have HWV:=Kh hwv
   have HCV:∀ W:World,Hid (Calls Tryd.prog 72 #[.string st.word,.int .i64 im.length] W fun e w'=>e=.returned (.bool wv)∧W=w'):=fun W=>Kh (by rw [hwv];exact wordValid_any st.word im.length W HWZ.out)
   rw [← hwv] at HB
   clear hwv
   cases wv with
   | false =>
    have HD:Hid (derB t im ss=false):=Kh (xS hk (by rw [HB.out];simp))
    go_wp2
    go_quiet ((go_at_call 72;exact wF (HCV _).out))
    go_wp2
    go_ret
    exact ⟨zT HD.out.symm,zF HGB.out (zJ wb _ none) (by simp)⟩
   | true =>
    have hvl:=mD HGD.out st.word.data.toList (oneN t) (by
     have:=HWV.out.symm
     simp only [yH,Bool.and_eq_true,List.all_eq_true] at this
     exact this.2) (oC HGD.out).1
    have hval:∀ W:World,wb.grownBy W none→Calls Tryd.prog 73 #[.slice ta t.length tc,.slice ia im.length ic,.int .i64 (oneN t:Int),.string st.word] W fun e w'=>e=.returned (.int .i64 ((walkV t im (oneN t) st.word.data.toList:Nat):Int))∧∃ m,w'=W.drewN m:=fun W hW =>
     value_any B W _ _ t im (oneN t) st.word ((H.out.kept HGB.out (by simp)).kept hW (by simp)) ((HI.out.kept HGB.out (by simp)).kept hW (by simp)) HGD.out (oC HGD.out).1 HWV.out.symm
    obtain ⟨V,hV⟩:∃ V,V=walkV t im (oneN t) st.word.data.toList:=⟨_,rfl⟩
    rw [← hV] at hvl hval HB
    have HVAL:=Kh hval
    have hsh:=rW (m:=V) (by omega)
    have hsh':=pX (m:=V) (by omega)
    obtain ⟨X,hX⟩:∃ X,X=2 ^ V:=⟨_,rfl⟩
    rw [← hX] at hsh hsh' HB
    clear hV hX hval
    by_cases hv:st.set=(X:Int)
    ·have qv:(st.set == (X:Int))=true:=by rw [hv];simp
     have HBT:Hid (stepB t im ss k=true):=Kh (by rw [HB.out];simp [ha,hb,hv])
     go_wp2
     go_quiet ((first|(go_at_call 72;exact wF (HCV _).out)|(go_at_call 73;exact nI (HVAL.out _ (zJ wb _ none)))|fail))
     go_wp2
     go_roundg (ss.length - (k+1))
     case measure=>have:=HGH.out;omega
     case rel=>exact ⟨k+1,by have:=HGH.out;omega,by go_num,Kh (uZ hst.out HBT.out),HSB.out.kept (zJ wb _ none) (by simp),zF HGB.out (zJ wb _ none) (by simp),hzb⟩
    ·have qv:(st.set == (X:Int))=false:=by rw [beq_eq_false_iff_ne];exact hv
     have HD:Hid (derB t im ss=false):=Kh (xS hk (by rw [HB.out];simp [hv]))
     go_wp2
     go_quiet ((first|(go_at_call 72;exact wF (HCV _).out)|(go_at_call 73;exact nI (HVAL.out _ (zJ wb _ none)))|fail))
     go_wp2
     go_ret
     exact ⟨zT HD.out.symm,zF HGB.out (zJ wb _ none) (by simp)⟩
  by_cases hp2:st.op=2
  ·have q1:(st.op == 1)=false:=by rw [hp2];rfl
   have q2:(st.op == 2)=true:=by rw [hp2];rfl
   have HB:=Kh (rL (t:=t) (im:=im) HST.out hp2)
   clear hp1 hp2
   obtain ⟨ew,hew⟩:∃ ew,ew=st.word.toList.isEmpty:=⟨_,rfl⟩
   have qw:st.word.toList.isEmpty=ew:=hew.symm
   rw [← hew] at HB
   clear hew
   cases ew with
   | false =>
    have HD:Hid (derB t im ss=false):=Kh (xS hk (by rw [HB.out];simp))
    go_wp2
    go_quiet (fail)
    go_wp2
    go_ret
    exact ⟨zT HD.out.symm,zF HGB.out (zJ wb _ none) (by simp)⟩
   | true =>
    by_cases ha:¬ (0≤st.a∧st.a < k)
    ·have qa:decide (0≤st.a∧st.a < (k:Int))=false:=decide_eq_false ha
     have HD:Hid (derB t im ss=false):=Kh (xS hk (by rw [HB.out];simp [befB,qa]))
     have HBA:∀ W:World,Hid (Calls Tryd.prog 74 #[.int .i64 st.a,.int .i64 k] W fun e w'=>e=.returned (.bool false)∧W=w'):=fun W=>Kh (by rw [← qa];exact rR W st.a k)
     go_wp2
     go_quiet ((go_at_call 74;exact wF (HBA _).out))
     go_wp2
     go_ret
     exact ⟨zT HD.out.symm,zF HGB.out (zJ wb _ none) (by simp)⟩
    replace ha:0≤st.a∧st.a < k:=Decidable.not_not.1 ha
    have qa:decide (0≤st.a∧st.a < (k:Int))=true:=decide_eq_true ha
    have HBA:∀ W:World,Hid (Calls Tryd.prog 74 #[.int .i64 st.a,.int .i64 k] W fun e w'=>e=.returned (.bool true)∧W=w'):=fun W=>Kh (by rw [← qa];exact rR W st.a k)
    by_cases hb:¬ (0≤st.b∧st.b < k)
    ·have qb:decide (0≤st.b∧st.b < (k:Int))=false:=decide_eq_false hb
     have HD:Hid (derB t im ss=false):=Kh (xS hk (by rw [HB.out];simp [befB,qb]))
     have HBB2:∀ W:World,Hid (Calls Tryd.prog 74 #[.int .i64 st.b,.int .i64 k] W fun e w'=>e=.returned (.bool false)∧W=w'):=fun W=>Kh (by rw [← qb];exact rR W st.b k)
     clear qa qb
     go_wp2
     go_quiet ((go_at_call 74;first|with_reducible exact wF (HBA _).out|with_reducible exact wF (HBB2 _).out))
     go_wp2
     go_ret
     exact ⟨zT HD.out.symm,zF HGB.out (zJ wb _ none) (by simp)⟩
    replace hb:0≤st.b∧st.b < k:=Decidable.not_not.1 hb
    have qb:decide (0≤st.b∧st.b < (k:Int))=true:=decide_eq_true hb
    have HBB2:∀ W:World,Hid (Calls Tryd.prog 74 #[.int .i64 st.b,.int .i64 k] W fun e w'=>e=.returned (.bool true)∧W=w'):=fun W=>Kh (by rw [← qb];exact rR W st.b k)
    obtain ⟨na,hna⟩:∃ na:Nat,(na:Int)=st.a:=⟨st.a.toNat,by omega⟩
    obtain ⟨nb,hnb⟩:∃ nb:Nat,(nb:Int)=st.b:=⟨st.b.toNat,by omega⟩
    have hak:na < ss.length:=by omega
    have hbk:nb < ss.length:=by omega
    have hak':(na:Int) < ss.length:=by omega
    have hbk':(nb:Int) < ss.length:=by omega
    have hsa:=oX HGD.out hst.out na (by omega)
    have hsb:=oX HGD.out hst.out nb (by omega)
    have HFA:Hid (befB st.a k=true∧befB st.b k=true):=Kh ⟨qa,qb⟩
    have hso:=HSO.out.kept HGB.out (by simp)
    have ca:=hso.set na hak
    have cb:=hso.set nb hbk
    have hba:st.a.toNat=na:=by omega
    have hbb:st.b.toNat=nb:=by omega
    rw [hba,hbb] at HB
    rw [← hna] at b1 HBA
    rw [← hnb] at b2 HBB2
    obtain ⟨za,hza⟩:∃ za:Nat,(za:Int)=(ss.getD na default).set:=⟨(ss.getD na default).set.toNat,by omega⟩
    obtain ⟨zb,hzb2⟩:∃ zb:Nat,(zb:Int)=(ss.getD nb default).set:=⟨(ss.getD nb default).set.toNat,by omega⟩
    rw [← hza] at ca hsa HB
    rw [← hzb2] at cb hsb HB
    rw [Int.toNat_natCast,Int.toNat_natCast] at HB
    have hpr:∀ W:World,wb.grownBy W none→Calls Tryd.prog 53 #[.pointer (some ⟨p,0,none⟩),.int .i64 (za:Int),.int .i64 (zb:Int)] W fun e w'=>e=.returned (.int .i64 (zP t.length (entN t) za zb:Nat))∧∃ m,w'=W.drewN m:=fun W hW =>
     tW w1.heap.size w2.heap.size W p go t.length (entN t) za zb (HSB.out.kept hW (by simp)) HTB.out.lt hle (by omega) (by omega) ((HT.out.kept HGB.out (by simp)).kept hW (by simp))
    obtain ⟨X,hX⟩:∃ X,X=zP t.length (entN t) za zb:=⟨_,rfl⟩
    rw [← hX] at hpr HB
    have HPR:=Kh hpr
    clear hX hpr hso hsa hsb hba hbb hza hzb2 qa qb ha hb hna hnb
    by_cases hv:st.set=(X:Int)
    ·have qv:(st.set == (X:Int))=true:=by rw [hv];simp
     have HBT:Hid (stepB t im ss k=true):=Kh (by rw [HB.out,HFA.out.1,HFA.out.2,decide_eq_true hv];rfl)
     go_wp2
     go_quiet ((first|(go_at_call 74;first|with_reducible exact wF (HBA _).out|with_reducible exact wF (HBB2 _).out)|(go_at_call 53;exact nI (HPR.out _ (zJ wb _ none)))|fail))
     go_wp2
     go_roundg (ss.length - (k+1))
     case measure=>have:=HGH.out;omega
     case rel=>exact ⟨k+1,by have:=HGH.out;omega,by go_num,Kh (uZ hst.out HBT.out),HSB.out.kept (zJ wb _ none) (by simp),zF HGB.out (zJ wb _ none) (by simp),hzb⟩
    ·have qv:(st.set == (X:Int))=false:=by rw [beq_eq_false_iff_ne];exact hv
     have HD:Hid (derB t im ss=false):=Kh (xS hk (by rw [HB.out];simp [hv]))
     go_wp2
     go_quiet ((first|(go_at_call 74;first|with_reducible exact wF (HBA _).out|with_reducible exact wF (HBB2 _).out)|(go_at_call 53;exact nI (HPR.out _ (zJ wb _ none)))|fail))
     go_wp2
     go_ret
     exact ⟨zT HD.out.symm,zF HGB.out (zJ wb _ none) (by simp)⟩
  by_cases hp3:st.op=3
  ·have q1:(st.op == 1)=false:=by rw [hp3];rfl
   have q2:(st.op == 2)=false:=by rw [hp3];rfl
   have q3:(st.op == 3)=true:=by rw [hp3];rfl
   have HB:=Kh (oY (t:=t) (im:=im) HST.out hp3)
   clear hp1 hp2 hp3
   obtain ⟨ew,hew⟩:∃ ew,ew=st.word.toList.isEmpty:=⟨_,rfl⟩
   have qw:st.word.toList.isEmpty=ew:=hew.symm
   rw [← hew] at HB
   clear hew
   cases ew with
   | false =>
    have HD:Hid (derB t im ss=false):=Kh (xS hk (by rw [HB.out];simp))
    go_wp2
    go_quiet (fail)
    go_wp2
    go_ret
    exact ⟨zT HD.out.symm,zF HGB.out (zJ wb _ none) (by simp)⟩
   | true =>
    by_cases ha:¬ (0≤st.a∧st.a < k)
    ·have qa:decide (0≤st.a∧st.a < (k:Int))=false:=decide_eq_false ha
     have HD:Hid (derB t im ss=false):=Kh (xS hk (by rw [HB.out];simp [befB,qa]))
     have HBA:∀ W:World,Hid (Calls Tryd.prog 74 #[.int .i64 st.a,.int .i64 k] W fun e w'=>e=.returned (.bool false)∧W=w'):=fun W=>Kh (by rw [← qa];exact rR W st.a k)
     go_wp2
     go_quiet ((go_at_call 74;exact wF (HBA _).out))
     go_wp2
     go_ret
     exact ⟨zT HD.out.symm,zF HGB.out (zJ wb _ none) (by simp)⟩
    replace ha:0≤st.a∧st.a < k:=Decidable.not_not.1 ha
    have qa:decide (0≤st.a∧st.a < (k:Int))=true:=decide_eq_true ha
    have HBA:∀ W:World,Hid (Calls Tryd.prog 74 #[.int .i64 st.a,.int .i64 k] W fun e w'=>e=.returned (.bool true)∧W=w'):=fun W=>Kh (by rw [← qa];exact rR W st.a k)
    by_cases hb:st.b≠0
    ·have qb:(st.b == 0)=false:=by rw [beq_eq_false_iff_ne];exact hb
     have HD:Hid (derB t im ss=false):=Kh (xS hk (by rw [HB.out];simp [hb]))
     clear qa ha
     go_wp2
     go_quiet ((go_at_call 74;exact wF (HBA _).out))
     go_wp2
     go_ret
     exact ⟨zT HD.out.symm,zF HGB.out (zJ wb _ none) (by simp)⟩
    replace hb:st.b=0:=by omega
    have qb:(st.b == 0)=true:=by rw [hb];rfl
    obtain ⟨na,hna⟩:∃ na:Nat,(na:Int)=st.a:=⟨st.a.toNat,by omega⟩
    have hak:na < ss.length:=by omega
    have hak':(na:Int) < ss.length:=by omega
    have hsa:=oX HGD.out hst.out na (by omega)
    have HFA:Hid (befB st.a k=true∧st.b=0):=Kh ⟨qa,hb⟩
    have hso:=HSO.out.kept HGB.out (by simp)
    have ca:=hso.set na hak
    have hgblt:=hso.lt
    have hba:st.a.toNat=na:=by omega
    rw [hba] at HB
    rw [← hna] at b1 HBA
    obtain ⟨za,hza⟩:∃ za:Nat,(za:Int)=(ss.getD na default).set:=⟨(ss.getD na default).set.toNat,by omega⟩
    rw [← hza] at ca hsa HB
    rw [Int.toNat_natCast] at HB
    have hom:∀ W:World,wb.grownBy W none→Calls Tryd.prog 56 #[.pointer (some ⟨p,0,none⟩),.int .i64 (za:Int)] W fun e w'=>e=.returned (.int .i64 (yC t.length (entN t) za:Nat))∧wH w1.heap.size w2.heap.size w' p go t.length (entN t)∧wb.grownBy w' (some go):=fun W hW =>
     (oD w1.heap.size w2.heap.size W p go t.length (entN t) za (HSB.out.kept hW (by simp)) HTB.out hle (by omega) ((HT.out.kept HGB.out (by simp)).kept hW (by simp))).mono fun _ _ ⟨h1,h2,h3⟩=>⟨h1,h2,zG (xZ hW) h3⟩
    have hbg:gb < w.heap.size:=by omega
    have HCB:Hid (∀ W,wb.grownBy W (some go)→W.cell? ⟨o,1,none⟩=some (.int .i64 (na:Int))∧W.cell? ⟨o,2,none⟩=some (.int .i64 st.b)∧W.cell? ⟨o,3,none⟩=some (.string st.word)∧W.cell? ⟨o,4,none⟩=some (.int .i64 st.set)∧W.cell? ⟨gb,go_+na * 5+4,none⟩=some (.int .i64 (za:Int))):=Kh (fun W hW=>by
     have key:∀ (b i:Nat) (u:Value),b≠go→wb.cell? ⟨b,i,none⟩=some u→W.cell? ⟨b,i,none⟩=some u:=fun b i u hne hc=>cell_still hc hW (fun j e e2=>hne ((Oj e).trans e2).symm)
     exact ⟨key _ _ _ (by omega) b1,key _ _ _ (by omega) b2,key _ _ _ (by omega) b3,key _ _ _ (by omega) b4,key _ _ _ (by omega) ca⟩)
    have GA:wb.grownBy wb.drew none:=zU _ _
    obtain ⟨X,hX⟩:∃ X,X=yC t.length (entN t) za:=⟨_,rfl⟩
    rw [← hX] at hom HB
    have HOM:=Kh hom
    clear hX hom hso hsa hba hza qa ha hb hna hgblt
    by_cases hv:st.set=(X:Int)
    ·have qv:(st.set == (X:Int))=true:=by rw [hv];simp
     have HBT:Hid (stepB t im ss k=true):=Kh (by rw [HB.out,HFA.out.1,HFA.out.2,decide_eq_true hv];rfl)
     clear hv
     go_wp2
     go_region_held3 (fun W=>W.cell? ⟨o,1,none⟩=some (.int .i64 (na:Int))∧W.cell? ⟨o,2,none⟩=some (.int .i64 st.b)∧W.cell? ⟨o,3,none⟩=some (.string st.word)∧W.cell? ⟨o,4,none⟩=some (.int .i64 st.set)∧W.cell? ⟨gb,go_+na * 5+4,none⟩=some (.int .i64 (za:Int)))
      (first|go_keep|exact HCB.out _ hG7|fail)
      (first|(go_at_call 74;refine (HBA _).out.mono ?_;rintro e w' ⟨rfl,rfl⟩)|(go_at_call 56;(with_reducible refine (HOM.out _ GA).mono ?_);rintro e w7 ⟨rfl,hS7,hG7⟩)|fail)
     have hFAR:∀ j,some go=some j→w.heap.size≤j:=fun j e=>by have e:go=j:=Oj e;omega
     have HG8:=Kh (zF HGB.out hG7 hFAR)
     have hz7:=hG7.size
     have HS7:=Kh hS7
     clear hS7 hG7 hFAR
     go_wp2
     go_roundg (ss.length - (k+1))
     case measure=>have:=HGH.out;omega
     case rel=>exact ⟨k+1,by have:=HGH.out;omega,by go_num,Kh (uZ hst.out HBT.out),HS7.out,HG8.out,by omega⟩
    ·have qv:(st.set == (X:Int))=false:=by rw [beq_eq_false_iff_ne];exact hv
     have HD:Hid (derB t im ss=false):=Kh (xS hk (by rw [HB.out];simp [hv]))
     clear hv
     go_wp2
     go_region_held3 (fun W=>W.cell? ⟨o,1,none⟩=some (.int .i64 (na:Int))∧W.cell? ⟨o,2,none⟩=some (.int .i64 st.b)∧W.cell? ⟨o,3,none⟩=some (.string st.word)∧W.cell? ⟨o,4,none⟩=some (.int .i64 st.set)∧W.cell? ⟨gb,go_+na * 5+4,none⟩=some (.int .i64 (za:Int)))
      (first|go_keep|exact HCB.out _ hG7|fail)
      (first|(go_at_call 74;refine (HBA _).out.mono ?_;rintro e w' ⟨rfl,rfl⟩)|(go_at_call 56;(with_reducible refine (HOM.out _ GA).mono ?_);rintro e w7 ⟨rfl,hS7,hG7⟩)|fail)
     have hFAR:∀ j,some go=some j→w.heap.size≤j:=fun j e=>by have e:go=j:=Oj e;omega
     have HG8:=Kh (zF HGB.out hG7 hFAR)
     clear hS7 hG7 hFAR
     go_wp2
     go_ret
     exact ⟨zT HD.out.symm,HG8.out⟩
  ·have HD:=Kh (xS hk (lK (t:=t) (im:=im) HST.out hp1 hp2 hp3))
   have q1:(st.op == 1)=false:=by rw [beq_eq_false_iff_ne];exact hp1
   have q2:(st.op == 2)=false:=by rw [beq_eq_false_iff_ne];exact hp2
   have q3:(st.op == 3)=false:=by rw [beq_eq_false_iff_ne];exact hp3
   go_wp2
   go_ret
   exact ⟨zT HD.out.symm,HGB.out⟩
theorem setB_of {n z:Nat} (h:z < 2 ^ n):setB n (z:Int)=true:=by
 have e:((2 ^ n:Nat):Int)=(2:Int) ^ n:=by rw [Int.natCast_pow];rfl
 simp only [setB,decide_eq_true_eq]
 first|(rw [← e];omega)|omega
theorem pQ {x z:Nat}:(2 ^ x).testBit z=decide (x=z):=by rw [Nat.testBit_two_pow]
theorem prod_single {n:Nat} {tb:Nat→Nat→Nat} (ht:Tb n tb) {x y:Nat} (hx:x < n) (hy:y < n):zP n tb (2 ^ x) (2 ^ y)=2 ^ tb x y:=by
 apply Nat.eq_of_testBit_eq
 intro z
 rw [pQ,Bool.eq_iff_iff,xD,decide_eq_true_eq]
 constructor
 ·rintro ⟨a,b,_,_,h1,h2,e⟩
  rw [pQ,decide_eq_true_eq] at h1 h2
  subst h1;subst h2;exact e
 ·intro e
  exact ⟨x,y,hx,hy,by rw [pQ];simp,by rw [pQ];simp,e⟩
section
variable {t:List (List Int)} {im:List Int}
def UC (t:List (List Int)) (im:List Int) (s:Nat):Prop:=under (uI t im) s=true
theorem uS (hg:Good t im):yA t.length (entN t) (uI t im)=uI t im∧(∀ s,under (tB t im) s=true→UC t im s)∧(∀ b∈uI t im,b < 2 ^ t.length):=by
 have h:=closeFrom_inv (tb_of hg.valid) (lL hg)
 exact ⟨h.1,h.2.1,h.2.2.1⟩
theorem iU (hg:Good t im) {s:Nat} (h:s∈genL t im):UC t im s:=by
 refine (uS hg).2.1 s ?_
 rw [tB,tS (qX hg)]
 exact yI.2 ⟨s,h,oV s⟩
theorem jX (hg:Good t im) {a b:Nat} (ha:UC t im a) (hb:UC t im b):UC t im (zP t.length (entN t) a b):=closed_prod (tb_of hg.valid) (uS hg).2.2 (uS hg).1 ha hb
theorem uc_omega (hg:Good t im) {a:Nat} (ha:UC t im a):UC t im (yC t.length (entN t) a):=closed_omega (tb_of hg.valid) (uS hg).2.2 (uS hg).1 ha
theorem uc_one (hg:Good t im):UC t im (2 ^ oneN t):=iU hg (by simp [genL,oneN])
theorem uc_word (hg:Good t im):∀ (l:List UInt8) (x:Nat),x < t.length→UC t im (2 ^ x)→(∀ c∈l,sV im.length c=true)→UC t im (2 ^ walkV t im x l)
 | [],x,_,h,_=>h
 | c :: l,x,hx,h,hl=>by
  have hc:=hl c (by simp)
  simp only [sV,decide_eq_true_eq] at hc
  have h1:=rE.1 hg.inb (c.toNat - 97) (by omega)
  have hs:=(uE hg.valid).1
  have hy:(im.getD (c.toNat - 97) 0).toNat < t.length:=by omega
  refine uc_word hg l (entN t x (im.getD (c.toNat - 97) 0).toNat) (uD hs hx hy) ?_ (fun d hd=>hl d (by simp [hd]))
  rw [← prod_single (tb_of hg.valid) hx hy]
  refine jX hg h (iU hg ?_)
  refine List.mem_cons_of_mem _ (List.mem_map.2 ⟨im.getD (c.toNat - 97) 0,?_,rfl⟩)
  rw [List.getD_eq_getElem?_getD,List.getElem?_eq_getElem (show c.toNat - 97 < im.length by omega)]
  exact List.getElem_mem _
theorem step_more {ss r:List StepV} {i:Nat} (hi:i < ss.length) (h:stepB t im ss i=true):stepB t im (ss ++ r) i=true:=by
 have key:∀ j,j < ss.length→(ss ++ r).getD j default=ss.getD j default:=fun j hj=>by
  rw [List.getD_eq_getElem?_getD,List.getElem?_append_left hj,← List.getD_eq_getElem?_getD]
 simp only [stepB] at h ⊢
 rw [key i hi]
 split at h
 ·rename_i h1;rw [if_pos h1];exact h
 rename_i h1
 rw [if_neg h1]
 split at h
 ·rename_i h2
  rw [if_pos h2]
  simp only [Bool.and_eq_true] at h
  have ha:=xT.1 h.1.1.2
  have hb:=xT.1 h.1.2
  rw [key _ (by omega),key _ (by omega)]
  simp only [Bool.and_eq_true];exact h
 rename_i h2
 rw [if_neg h2]
 split at h
 ·rename_i h3
  rw [if_pos h3]
  simp only [Bool.and_eq_true] at h
  have ha:=xT.1 h.1.1.2
  rw [key _ (by omega)]
  simp only [Bool.and_eq_true];exact h
 ·cases h
structure Ders (t:List (List Int)) (im:List Int) (ss:List StepV):Prop where
 ok:tU t im ss ss.length
 uc:∀ i,i < ss.length→∃ s:Nat,(ss.getD i default).set=(s:Int)∧s < 2 ^ t.length∧UC t im s
 wz:∀ i,i < ss.length→(ss.getD i default).word.size≤maxLen
theorem Ders.nil:Ders t im []:=⟨fun i hi=>absurd hi (by simp),fun i hi=>absurd hi (by simp),fun i hi=>absurd hi (by simp)⟩
theorem vV (ss:List StepV) (st:StepV):(ss ++ [st]).getD ss.length default=st:=by
 rw [List.getD_eq_getElem?_getD,List.getElem?_append_right (Nat.le_refl _)];simp
theorem uW (ss:List StepV) (st:StepV) {j:Nat} (hj:j < ss.length):(ss ++ [st]).getD j default=ss.getD j default:=by
 rw [List.getD_eq_getElem?_getD,List.getElem?_append_left hj,← List.getD_eq_getElem?_getD]
theorem Ders.push {ss:List StepV} {st:StepV} {s:Nat} (h:Ders t im ss) (hs:stepB t im (ss ++ [st]) ss.length=true) (he:st.set=(s:Int)) (hl:s < 2 ^ t.length) (hu:UC t im s) (hw:st.word.size≤maxLen):Ders t im (ss ++ [st]) where
 ok:=fun i hi=>by
  rw [List.length_append,List.length_singleton] at hi
  rcases Nat.lt_succ_iff_lt_or_eq.1 hi with hi|rfl
  ·exact step_more hi (h.ok i hi)
  ·exact hs
 uc:=fun i hi=>by
  rw [List.length_append,List.length_singleton] at hi
  rcases Nat.lt_succ_iff_lt_or_eq.1 hi with hi|rfl
  ·rw [uW ss st hi];exact h.uc i hi
  ·rw [vV];exact ⟨s,he,hl,hu⟩
 wz:=fun i hi=>by
  rw [List.length_append,List.length_singleton] at hi
  rcases Nat.lt_succ_iff_lt_or_eq.1 hi with hi|rfl
  ·rw [uW ss st hi];exact h.wz i hi
  ·rw [vV];exact hw
theorem Ders.word (hg:Good t im) {ss:List StepV} (h:Ders t im ss) {wd:ByteArray} (hv:yH wd im.length=true):Ders t im (ss ++ [⟨1,0,0,wd,((2 ^ walkV t im (oneN t) wd.data.toList:Nat):Int)⟩]):=by
 have hl:∀ c∈wd.data.toList,sV im.length c=true:=by
  have:=hv
  simp only [yH,Bool.and_eq_true,List.all_eq_true] at this;exact this.2
 have hz:wd.size≤maxLen:=by
  have:=hv
  simp only [yH,Bool.and_eq_true,decide_eq_true_eq] at this
  unfold maxLen;omega
 have ho:=(oC hg).1
 refine h.push ?_ rfl (Nat.pow_lt_pow_right (by omega) (mD hg _ _ hl ho)) (uc_word hg _ _ ho (uc_one hg) hl) hz
 rw [pD (vV ss _).symm rfl]
 simp [hv]
theorem Ders.product (hg:Good t im) {ss:List StepV} (h:Ders t im ss) {a b za zb:Nat} (ha:a < ss.length) (hb:b < ss.length) (ea:(ss.getD a default).set=(za:Int)) (eb:(ss.getD b default).set=(zb:Int)):Ders t im (ss ++ [⟨2,a,b,⟨#[]⟩,((zP t.length (entN t) za zb:Nat):Int)⟩]):=by
 obtain ⟨sa,h1,h2,h3⟩:=h.uc a ha
 obtain ⟨sb,k1,k2,k3⟩:=h.uc b hb
 have e1:sa=za:=by omega
 have e2:sb=zb:=by omega
 subst e1;subst e2
 refine h.push ?_ rfl (xU (tb_of hg.valid).lt _ _) (jX hg h3 k3) (Nat.zero_le _)
 rw [rL (vV ss _).symm rfl]
 have x1:befB (a:Int) ss.length=true:=xT.2 ⟨by omega,by omega⟩
 have x2:befB (b:Int) ss.length=true:=xT.2 ⟨by omega,by omega⟩
 simp only [Bool.and_eq_true,decide_eq_true_eq]
 refine ⟨⟨⟨by rw [ByteArray.toList_eq];rfl,x1⟩,x2⟩,?_⟩
 have e3:∀ st:StepV,((ss ++ [st]).getD ((a:Nat):Int).toNat default).set=(sa:Int):=fun st=>by rw [Int.toNat_natCast,uW ss st ha,ea]
 have e4:∀ st:StepV,((ss ++ [st]).getD ((b:Nat):Int).toNat default).set=(sb:Int):=fun st=>by rw [Int.toNat_natCast,uW ss st hb,eb]
 rw [e3,e4,Int.toNat_natCast,Int.toNat_natCast]
theorem Ders.om (hg:Good t im) {ss:List StepV} (h:Ders t im ss) {a za:Nat} (ha:a < ss.length) (ea:(ss.getD a default).set=(za:Int)):Ders t im (ss ++ [⟨3,a,0,⟨#[]⟩,((yC t.length (entN t) za:Nat):Int)⟩]):=by
 obtain ⟨sa,h1,h2,h3⟩:=h.uc a ha
 have e1:sa=za:=by omega
 subst e1
 refine h.push ?_ rfl (vO (tb_of hg.valid) h2) (uc_omega hg h3) (Nat.zero_le _)
 rw [oY (vV ss _).symm rfl]
 have x1:befB (a:Int) ss.length=true:=xT.2 ⟨by omega,by omega⟩
 simp only [Bool.and_eq_true,decide_eq_true_eq]
 refine ⟨⟨⟨by rw [ByteArray.toList_eq];rfl,x1⟩,trivial⟩,?_⟩
 have e3:∀ st:StepV,((ss ++ [st]).getD ((a:Nat):Int).toNat default).set=(sa:Int):=fun st=>by rw [Int.toNat_natCast,uW ss st ha,ea]
 rw [e3,Int.toNat_natCast]
theorem within_uc (hg:Good t im) {s:Nat} (hs:s < 2 ^ t.length) (h:UC t im s):tG (intL (uI t im)) (s:Int)=true:=by
 obtain ⟨b,hb,e⟩:=yI.1 h
 have hbl:=(uS hg).2.2 b hb
 have hp:2 ^ t.length≤2 ^ 12:=Nat.pow_le_pow_right (by omega) hg.le
 refine List.any_eq_true.2 ⟨(b:Int),List.mem_map.2 ⟨b,hb,rfl⟩,?_⟩
 rw [uQ b s (by omega) (by omega),Nat.and_comm,e];simp
theorem Ders.derB {ss:List StepV} (h:Ders t im ss) (hz:yO t im=0) (h0:0 < ss.length):derB t im ss=true:=lW hz h0 h.ok
end
end Go.Proofs.YtdjhoadoiknaoaaDoor
