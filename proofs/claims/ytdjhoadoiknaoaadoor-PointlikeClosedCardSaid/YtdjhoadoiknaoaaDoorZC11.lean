/- Part 11 of the proof: Check, ClosePlain, Gen, MaxRef. -/
import Derived.Test.YtdjhoadoiknaoaaDoorZC10
import Derived.Deep.CutBlock
set_option linter.unusedVariables false
set_option linter.unusedSimpArgs false
namespace Go.Proofs.YtdjhoadoiknaoaaDoor
open Go.RowKit
noncomputable def yO (t:List (List Int)) (im:List Int):Int :=
 if xK t≠0 then xK t else if wK t = -1 then 9 else if 12 < t.length then 3 else if im.length=0∨6 < im.length then 1 else if inB t.length im then 0 else 1
theorem oL (t:List (List Int)):wK t = -1∨∃ e:Nat,wK t=e∧e < t.length∧isId t e=true:=by
 unfold wK
 cases h:(List.range t.length).find? (isId t) with
 | none=>exact .inl rfl
 | some e =>
  refine .inr ⟨e,rfl,?_,List.find?_some h⟩
  have:=List.mem_of_find?_eq_some h
  simpa using this
structure Good (t:List (List Int)) (im:List Int):Prop where
 valid:xK t=0
 ident:∃ e:Nat,wK t=e∧e < t.length∧isId t e=true
 le:t.length≤12
 im0:0 < im.length
 im6:im.length≤6
 inb:inB t.length im=true
theorem wV {t:List (List Int)} {im:List Int}:yO t im=0 ↔ Good t im:=by
 unfold yO
 constructor
 ·intro h
  split at h
  ·rename_i hv;exact absurd h hv
  rename_i hv
  split at h
  ·omega
  rename_i hi
  split at h
  ·omega
  split at h
  ·omega
  split at h
  ·exact ⟨by omega,(oL t).resolve_left hi,by omega,by omega,by omega,by assumption⟩
  ·omega
 ·intro h
  obtain ⟨e,he,_⟩:=h.ident
  rw [if_neg (by rw [h.valid];simp),if_neg (by omega),if_neg (by have:=h.le;omega),if_neg (by have:=h.im0;have:=h.im6;omega),if_pos h.inb]
theorem c_valid {t:List (List Int)} {im:List Int} (h:xK t≠0):yO t im=xK t:=by rw [yO,if_pos h]
theorem c_ident {t:List (List Int)} {im:List Int} (h:xK t=0) (hi:wK t = -1):yO t im=9:=by rw [yO,if_neg (by omega),if_pos hi]
theorem c_big {t:List (List Int)} {im:List Int} (h:xK t=0) (hi:¬ wK t = -1) (hn:12 < t.length):yO t im=3:=by rw [yO,if_neg (by omega),if_neg hi,if_pos hn]
theorem c_len {t:List (List Int)} {im:List Int} (h:xK t=0) (hi:¬ wK t = -1) (hn:¬ 12 < t.length) (hl:im.length=0∨6 < im.length):yO t im=1:=by rw [yO,if_neg (by omega),if_neg hi,if_neg hn,if_pos hl]
theorem c_in {t:List (List Int)} {im:List Int} (h:xK t=0) (hi:¬ wK t = -1) (hn:¬ 12 < t.length) (hl:¬ (im.length=0∨6 < im.length)):yO t im=if inB t.length im then 0 else 1:=by
 rw [yO,if_neg (by omega),if_neg hi,if_neg hn,if_neg hl]
set_option maxRecDepth 100000 in
set_option maxHeartbeats 800000 in
theorem mM (B:Nat) (w:World) (v iv:Value) (t:List (List Int)) (im:List Int) (hB:B≤w.heap.size) (h:Mat B w v t) (hi:Row B w iv (ints im)) :
  Calls Tryd.prog 58 #[v,iv] w fun e w'=>e=.returned (.int .i64 (yO t im))∧w.grownBy w' none:=by
 have hlm:=h.len_le
 unfold maxLen at hlm
 have him:=hi.len_le
 rw [zM] at him
 unfold maxLen at him
 have H:=Kh h;have HI:=Kh hi
 have hv:=pV B w v t hB h
 have HV:=Kh hv
 obtain ⟨sa,sc,rfl⟩:=h.shape
 obtain ⟨ia,ic,rfl⟩:=hi.shape
 rw [zM]
 clear h hv hi
 by_cases h1:xK t=0
 ·rw [h1] at HV
  have H1:=Kh h1
  have HID:∀ W,w.grownBy W none→Hid (Calls Tryd.prog 71 #[.slice sa t.length sc] W fun e w'=>e=.returned (.int .i64 (wK t))∧W.grownBy w' none):=fun W hW=>by
   have:=oK B W _ t (by have:=hW.size;omega) (H.out.kept hW (by simp))
   rw [qP h1] at this
   exact Kh this
  clear h1
  rcases oL t with h2|⟨e0,h2,he0,hei⟩
  ·have HC:=Kh (c_ident (im:=im) H1.out h2)
   rw [h2] at HID
   clear h2
   go_enter Tryd.func58,Tryd.ntmps58
   go_wp2_with fail
   refine HV.out.mono ?_
   rintro e w1 ⟨rfl,hg1⟩
   go_wp2_with fail
   refine (HID w1 hg1).out.mono ?_
   rintro e w2 ⟨rfl,hg2⟩
   go_wp2
   go_ret
   exact ⟨yD HC.out.symm,zG hg1 hg2⟩
  ·have h2':¬ wK t = -1:=by omega
   have H2:=Kh h2'
   rw [h2] at HID
   clear h2 h2' hei
   by_cases h3:12 < t.length
   ·have HC:=Kh (c_big (im:=im) H1.out H2.out h3)
    go_enter Tryd.func58,Tryd.ntmps58
    go_wp2_with fail
    refine HV.out.mono ?_
    rintro e w1 ⟨rfl,hg1⟩
    go_wp2_with fail
    refine (HID w1 hg1).out.mono ?_
    rintro e w2 ⟨rfl,hg2⟩
    go_wp2
    go_ret
    exact ⟨yD HC.out.symm,zG hg1 hg2⟩
   ·by_cases h4:im.length=0∨6 < im.length
    ·have HC:=Kh (c_len (im:=im) H1.out H2.out h3 h4)
     rcases h4 with h4|h4
     ·have e4:((im.length:Int) == 0)=true:=by rw [h4];rfl
      have H4:=Kh h4;clear h4
      go_enter Tryd.func58,Tryd.ntmps58
      go_wp2_with fail
      refine HV.out.mono ?_
      rintro e w1 ⟨rfl,hg1⟩
      go_wp2_with fail
      refine (HID w1 hg1).out.mono ?_
      rintro e w2 ⟨rfl,hg2⟩
      go_wp2
      go_ret
      exact ⟨yD HC.out.symm,zG hg1 hg2⟩
     ·have e4:((im.length:Int) == 0)=false:=by rw [beq_eq_false_iff_ne];omega
      go_enter Tryd.func58,Tryd.ntmps58
      go_wp2_with fail
      refine HV.out.mono ?_
      rintro e w1 ⟨rfl,hg1⟩
      go_wp2_with fail
      refine (HID w1 hg1).out.mono ?_
      rintro e w2 ⟨rfl,hg2⟩
      go_wp2
      go_ret
      exact ⟨yD HC.out.symm,zG hg1 hg2⟩
    ·have HC:=Kh (c_in (im:=im) H1.out H2.out h3 h4)
     have e4:((im.length:Int) == 0)=false:=by rw [beq_eq_false_iff_ne];omega
     have h5:im.length≤6:=by omega
     have h6:0 < im.length:=by omega
     clear h4
     go_enter Tryd.func58,Tryd.ntmps58
     go_wp2_with fail
     refine HV.out.mono ?_
     rintro e w1 ⟨rfl,hg1⟩
     go_wp2_with fail
     refine (HID w1 hg1).out.mono ?_
     rintro e w2 ⟨rfl,hg2⟩
     have hgw:=zG hg1 hg2
     obtain ⟨ib,io,icc,e,_,_,_,hra⟩:=(HI.out.kept hgw (by simp)).some_ (by rw [zM];exact h6)
     simp only [Value.slice.injEq] at e
     obtain ⟨rfl,-,-⟩:=e
     have RA:=Kh hra
     clear hra hg1 hg2
     go_wp2
     go_loopg [29] im.length (fun g i wr=>∃ k:Nat,g+k=im.length∧i=.int .i64 k∧jW t.length im k∧w2=wr)
     case atStart=>exact ⟨0,rfl,rfl,fun x hx=>absurd hx (by omega),rfl⟩
     case round =>
      obtain ⟨y,hg,rfl,hok,rfl⟩:=hrel
      have OKY:=Kh hok;have HG2:=Kh hg;clear hok hg
      by_cases hy:y < im.length
      ·have hcy:=RA.out.int y hy
       obtain ⟨z,hz⟩:∃ z,z=im.getD y 0:=⟨_,rfl⟩
       rw [← hz] at hcy
       have HZ:=Kh hz;clear hz
       by_cases hb1:z < 0
       ·have HN:Hid (inB t.length im=false):=Kh (jL hy (by rw [← HZ.out];exact .inl hb1))
        go_wp2
        go_ret
        exact ⟨yD (by rw [HC.out,HN.out];rfl),hgw⟩
       ·by_cases hb2:(t.length:Int)≤z
        ·have HN:Hid (inB t.length im=false):=Kh (jL hy (by rw [← HZ.out];exact .inr hb2))
         go_wp2
         go_ret
         exact ⟨yD (by rw [HC.out,HN.out];rfl),hgw⟩
        ·go_wp2
         go_roundg (im.length - (y+1))
         case measure=>have:=HG2.out;omega
         case rel =>
          refine ⟨y+1,by omega,by go_num,fun x hx=>?_,rfl⟩
          rcases Nat.lt_succ_iff_lt_or_eq.1 hx with hx|rfl
          ·exact OKY.out x hx
          ·rw [← HZ.out];omega
      ·have HY:Hid (inB t.length im=true):=Kh (rE.2 (fun x hx=>OKY.out x (by omega)))
       go_wp2
       go_ret
       exact ⟨yD (by rw [HC.out,HY.out];rfl),hgw⟩
 ·have hb:(xK t != 0)=true:=by rw [bne_iff_ne];exact h1
  have HC:=Kh (c_valid (im:=im) h1)
  clear h1
  go_enter Tryd.func58,Tryd.ntmps58
  go_wp2_with fail
  refine HV.out.mono ?_
  rintro e w1 ⟨rfl,hg1⟩
  go_wp2
  go_ret
  exact ⟨yD HC.out.symm,hg1⟩
theorem yX (w:World) (n:Int) :
  Calls Tryd.prog 80 #[.int .i64 n] w fun e w'=>e=.returned (.bool (decide (1≤n∧n≤6)))∧w=w':=by
 by_cases h:1≤n
 ·go_enter Tryd.func80,Tryd.ntmps80
  go_wp2
  go_ret
  exact ⟨zT (by simp [h]),rfl⟩
 ·go_enter Tryd.func80,Tryd.ntmps80
  go_wp2
  go_ret
  exact ⟨zT (by simp;omega),rfl⟩
set_option maxHeartbeats 800000 in
theorem may_any (B:Nat) (w:World) (v iv:Value) (t:List (List Int)) (im:List Int) (h:Mat B w v t) (hi:Row B w iv (ints im)) :
  Calls Tryd.prog 61 #[v,iv] w fun e w'=>e=.returned (.int .i64 (yO t im))∧∃ m,w'=w.drewN m:=by
 have hlm:=h.len_le
 unfold maxLen at hlm
 have him:=hi.len_le
 rw [zM] at him
 unfold maxLen at him
 have H:=Kh h;have HI:=Kh hi
 have hv:=validate14_any B w v t h
 have HV:=Kh hv
 obtain ⟨sa,sc,rfl⟩:=h.shape
 obtain ⟨ia,ic,rfl⟩:=hi.shape
 rw [zM]
 clear h hv hi
 by_cases h1:xK t=0
 ·rw [h1] at HV
  have H1:=Kh h1
  have HID:∀ m,Hid (Calls Tryd.prog 33 #[.slice sa t.length sc] (w.drewN m) fun e w'=>e=.returned (.int .i64 (wK t))∧w.drewN m=w'):=fun m =>
   Kh (qW B _ _ t (H.out.of_heap rfl) (uE H1.out).1)
  clear h1
  rcases oL t with h2|⟨e0,h2,he0,hei⟩
  ·have HC:=Kh (c_ident (im:=im) H1.out h2)
   rw [h2] at HID
   clear h2
   go_enter Tryd.func61,Tryd.ntmps61
   go_wp2_with fail
   refine HV.out.mono ?_
   rintro e w1 ⟨rfl,m,rfl⟩
   go_wp2_with fail
   refine (HID m).out.mono ?_
   rintro e w2 ⟨rfl,rfl⟩
   go_wp2
   go_ret
   exact ⟨yD HC.out.symm,m,rfl⟩
  ·have h2':¬ wK t = -1:=by omega
   have H2:=Kh h2'
   rw [h2] at HID
   have hne:((e0:Int) == -1)=false:=by rw [beq_eq_false_iff_ne];omega
   clear h2 h2' hei
   by_cases h3:12 < t.length
   ·have HC:=Kh (c_big (im:=im) H1.out H2.out h3)
    go_enter Tryd.func61,Tryd.ntmps61
    go_wp2_with fail
    refine HV.out.mono ?_
    rintro e w1 ⟨rfl,m,rfl⟩
    go_wp2_with fail
    refine (HID m).out.mono ?_
    rintro e w2 ⟨rfl,rfl⟩
    go_wp2
    go_ret
    exact ⟨yD HC.out.symm,m,rfl⟩
   ·by_cases h4:im.length=0∨6 < im.length
    ·have HC:=Kh (c_len (im:=im) H1.out H2.out h3 h4)
     have hml:decide (1≤(im.length:Int)∧(im.length:Int)≤6)=false:=by rw [decide_eq_false_iff_not];omega
     have HML:∀ m,Hid (Calls Tryd.prog 80 #[.int .i64 im.length] (w.drewN m) fun e w'=>e=.returned (.bool false)∧w.drewN m=w'):=fun m=>by
      have:=yX (w.drewN m) im.length
      rw [hml] at this
      exact Kh this
     clear hml h4
     go_enter Tryd.func61,Tryd.ntmps61
     go_wp2_with fail
     refine HV.out.mono ?_
     rintro e w1 ⟨rfl,m,rfl⟩
     go_wp2_with fail
     refine (HID m).out.mono ?_
     rintro e w2 ⟨rfl,rfl⟩
     go_wp2_with fail
     refine (HML m).out.mono ?_
     rintro e w2 ⟨rfl,rfl⟩
     go_wp2
     go_ret
     exact ⟨yD HC.out.symm,m,rfl⟩
    ·have HC:=Kh (c_in (im:=im) H1.out H2.out h3 h4)
     have hml:decide (1≤(im.length:Int)∧(im.length:Int)≤6)=true:=by rw [decide_eq_true_eq];omega
     have HML:∀ m,Hid (Calls Tryd.prog 80 #[.int .i64 im.length] (w.drewN m) fun e w'=>e=.returned (.bool true)∧w.drewN m=w'):=fun m=>by
      have:=yX (w.drewN m) im.length
      rw [hml] at this
      exact Kh this
     have HIN:∀ m,Hid (Calls Tryd.prog 69 #[.slice sa t.length sc,.slice ia im.length ic] (w.drewN m) fun e w'=>e=.returned (.bool (inB t.length im))∧w.drewN m=w'):=fun m=>by
      have h1:=HI.out.of_heap (w':=w.drewN m) rfl
      rw [zM] at h1
      exact Kh (in14_any B _ sa t.length sc _ im hlm h1)
     clear hml h4
     cases hb:inB t.length im
     ·rw [hb] at HC HIN
      clear hb
      go_enter Tryd.func61,Tryd.ntmps61
      go_wp2_with fail
      refine HV.out.mono ?_
      rintro e w1 ⟨rfl,m,rfl⟩
      go_wp2_with fail
      refine (HID m).out.mono ?_
      rintro e w2 ⟨rfl,rfl⟩
      go_wp2_with fail
      refine (HML m).out.mono ?_
      rintro e w2 ⟨rfl,rfl⟩
      go_wp2_with fail
      refine (HIN m).out.mono ?_
      rintro e w2 ⟨rfl,rfl⟩
      go_wp2
      go_ret
      exact ⟨yD (by rw [HC.out];rfl),m,rfl⟩
     ·rw [hb] at HC HIN
      clear hb
      go_enter Tryd.func61,Tryd.ntmps61
      go_wp2_with fail
      refine HV.out.mono ?_
      rintro e w1 ⟨rfl,m,rfl⟩
      go_wp2_with fail
      refine (HID m).out.mono ?_
      rintro e w2 ⟨rfl,rfl⟩
      go_wp2_with fail
      refine (HML m).out.mono ?_
      rintro e w2 ⟨rfl,rfl⟩
      go_wp2_with fail
      refine (HIN m).out.mono ?_
      rintro e w2 ⟨rfl,rfl⟩
      go_wp2
      go_ret
      exact ⟨yD (by rw [HC.out];rfl),m,rfl⟩
 ·have hb:(xK t != 0)=true:=by rw [bne_iff_ne];exact h1
  have HC:=Kh (c_valid (im:=im) h1)
  clear h1
  go_enter Tryd.func61,Tryd.ntmps61
  go_wp2_with fail
  refine HV.out.mono ?_
  rintro e w1 ⟨rfl,m,rfl⟩
  go_wp2
  go_ret
  exact ⟨yD HC.out.symm,m,rfl⟩
end Go.Proofs.YtdjhoadoiknaoaaDoor
namespace Go.Proofs.YtdjhoadoiknaoaaDoor
theorem filter_le {α:Type} {p q:α→Bool}:∀ (l:List α),(∀ a∈l,p a=true→q a=true)→(l.filter p).length≤(l.filter q).length
 | [],_=>Nat.le_refl _
 | a :: l,h=>by
  have ih:=filter_le l (fun b hb=>h b (List.mem_cons_of_mem _ hb))
  have ha:=h a (by simp)
  simp only [List.filter_cons]
  split <;> split <;> simp_all <;> omega
theorem filter_lt {α:Type} {p q:α→Bool}:∀ (l:List α),(∀ a∈l,p a=true→q a=true)→(∃ a∈l,p a=false∧q a=true)→(l.filter p).length < (l.filter q).length
 | [],_,⟨a,ha,_⟩=>by simp at ha
 | a :: l,h,⟨b,hb,hp,hq⟩=>by
  have hl:=filter_le l (fun b hb=>h b (List.mem_cons_of_mem _ hb))
  have ha:=h a (by simp)
  rcases List.mem_cons.1 hb with rfl|hb
  ·simp only [List.filter_cons,hp,hq]
   simp;omega
  ·have ih:=filter_lt l (fun b hb=>h b (List.mem_cons_of_mem _ hb)) ⟨b,hb,hp,hq⟩
   simp only [List.filter_cons]
   split <;> split <;> simp_all <;> omega
def gap (n:Nat) (l:List Nat):Nat:=((List.range (2 ^ n)).filter fun s=>!under l s).length
theorem gap_le (n:Nat) (l:List Nat):gap n l≤2 ^ n:=by
 have:=List.length_filter_le (fun s=>!under l s) (List.range (2 ^ n))
 rw [List.length_range] at this
 exact this
section
variable {n:Nat} {tb:Nat→Nat→Nat} {l:List Nat}
theorem nW (ht:Tb n tb) (hl:∀ b∈l,b < 2 ^ n) {s:Nat} (h:under l s=true):under (yA n tb l) s=true:=by
 rw [yA,tS (vH ht hl)]
 obtain ⟨b,hb,hs⟩:=yI.1 h
 exact yI.2 ⟨b,wR.2 (.inl hb),hs⟩
theorem round_lt {s:Nat} (h:s∈yA n tb l):s < 2 ^ n:=maxOf_lt h
theorem round_max (ht:Tb n tb) (hl:∀ b∈l,b < 2 ^ n):maxOf n (yA n tb l)=yA n tb l:=maxOf_max (vH ht hl)
theorem gap_round (ht:Tb n tb) (hl:∀ b∈l,b < 2 ^ n) (hm:maxOf n l=l) (hne:yA n tb l≠l):gap n (yA n tb l) < gap n l:=by
 unfold gap
 apply filter_lt
 ·intro s _ h
  cases hu:under l s with
  | false=>rfl
  | true=>rw [nW ht hl hu] at h;exact h
 ·apply Classical.byContradiction
  intro hno
  apply hne
  have he:∀ s,under (tK n tb l) s=under l s:=by
   intro s
   rw [← tS (vH ht hl)]
   show under (yA n tb l) s=_
   cases hu:under l s with
   | true=>exact nW ht hl hu
   | false =>
    cases hr:under (yA n tb l) s with
    | false=>rfl
    | true=>exact absurd ⟨s,List.mem_range.2 (under_lt (fun b hb=>round_lt hb) hr),by rw [hr];rfl,by rw [hu];rfl⟩ hno
  have:maxOf n (tK n tb l)=maxOf n l:=by
   unfold maxOf topB
   congr 1
   funext s
   rw [he]
   congr 1
   congr 1
   funext x
   rw [he]
  exact this.trans hm
def xH (n:Nat) (tb:Nat→Nat→Nat):Nat→List Nat × Bool→List Nat × Bool
 | 0,f=>f
 | k+1,f=>if f.2 then f else xH n tb k (yA n tb f.1,decide (yA n tb f.1=f.1))
def vY (n:Nat) (tb:Nat→Nat→Nat) (l:List Nat):List Nat:=(xH n tb (2 ^ n+1) (l,false)).1
theorem vM (k:Nat) (l:List Nat):xH n tb k (l,true)=(l,true):=by
 cases k <;> simp [xH]
theorem uR (k:Nat) (l:List Nat):xH n tb (k+1) (l,false)=xH n tb k (yA n tb l,decide (yA n tb l=l)):=by simp [xH]
theorem roundsGo_add (i j:Nat) (f:List Nat × Bool):xH n tb (i+j) f=xH n tb j (xH n tb i f):=by
 induction i generalizing f with
 | zero=>simp [xH]
 | succ i ih =>
  rw [Nat.succ_add]
  obtain ⟨l,d⟩:=f
  cases d with
  | true=>rw [vM,vM,vM]
  | false=>rw [uR,uR,ih]
def FamOk (n:Nat) (f:List Nat × Bool):Prop:=(∀ b∈f.1,b < 2 ^ n)∧maxOf n f.1=f.1
theorem pP (ht:Tb n tb) {l:List Nat} {d e:Bool} (h:FamOk n (l,d)):FamOk n (yA n tb l,e):=⟨fun _ hb=>round_lt hb,round_max ht h.1⟩
theorem pZ (ht:Tb n tb):∀ (k:Nat) (l:List Nat),FamOk n (l,false)→gap n l < k→(xH n tb k (l,false)).2=true
 | 0,l,_,h=>by omega
 | k+1,l,hf,h=>by
  rw [uR]
  by_cases e:yA n tb l=l
  ·rw [e,decide_eq_true rfl,vM]
  ·rw [decide_eq_false e]
   exact pZ ht k _ (pP ht hf) (by have:gap n (yA n tb l) < gap n l:=gap_round ht hf.1 hf.2 e;omega)
theorem roundsGo_true {k:Nat} {f:List Nat × Bool} (h:(xH n tb k f).2=true) (j:Nat):xH n tb (k+j) f=xH n tb k f:=by
 rw [roundsGo_add]
 generalize xH n tb k f=g at h
 obtain ⟨l,d⟩:=g
 simp only at h
 subst h
 exact vM _ _
theorem roundsGo_stop (ht:Tb n tb) {l:List Nat} (hf:FamOk n (l,false)) {k:Nat} (h:(xH n tb k (l,false)).2=true):(xH n tb k (l,false)).1=vY n tb l:=by
 have h1:=pZ ht (2 ^ n+1) l hf (by have:=gap_le n l;omega)
 unfold vY
 rcases Nat.le_total k (2 ^ n+1) with hk|hk
 ·obtain ⟨j,e⟩:∃ j,2 ^ n+1=k+j:=⟨2 ^ n+1 - k,by omega⟩
  rw [e,roundsGo_true h]
 ·obtain ⟨j,rfl⟩:∃ j,k=2 ^ n+1+j:=⟨k - (2 ^ n+1),by omega⟩
  rw [roundsGo_true h1]
end
end Go.Proofs.YtdjhoadoiknaoaaDoor
namespace Go.Proofs.YtdjhoadoiknaoaaDoor
open Go.RowKit
def genL (t:List (List Int)) (im:List Int):List Nat:=2 ^ (wK t).toNat :: im.map fun x=>2 ^ x.toNat
theorem qE (t:List (List Int)) (im:List Int):(genL t im).length=im.length+1:=by simp [genL]
theorem qX {t:List (List Int)} {im:List Int} (h:Good t im):∀ b∈genL t im,b < 2 ^ t.length:=by
 intro b hb
 obtain ⟨e,he,hel,_⟩:=h.ident
 rcases List.mem_cons.1 hb with rfl|hb
 ·rw [he];exact Nat.pow_lt_pow_right (by omega) hel
 ·obtain ⟨x,hx,rfl⟩:=List.mem_map.1 hb
  obtain ⟨i,hi,rfl⟩:=List.getElem_of_mem hx
  have:=rE.1 h.inb i hi
  simp only [List.getD,List.getElem?_eq_getElem hi,Option.getD_some] at this
  exact Nat.pow_lt_pow_right (by omega) (by omega)
def genTo (t:List (List Int)) (im:List Int) (k:Nat):List Nat:=2 ^ (wK t).toNat :: (im.take k).map fun x=>2 ^ x.toNat
theorem genTo_succ {t:List (List Int)} {im:List Int} {k:Nat} (hk:k < im.length):genTo t im (k+1)=genTo t im k ++ [2 ^ (im.getD k 0).toNat]:=by
 simp only [genTo,yF (d:=0) hk,List.map_append,List.map_cons,List.map_nil,List.cons_append]
theorem genTo_full {t:List (List Int)} {im:List Int}:genTo t im im.length=genL t im:=by simp [genTo,genL]
def Gens (w:World) (t:List (List Int)) (im:List Int) (e:Ending) (w':World):Prop :=
 ∃ (sa:Option Addr) (sc:Nat),e=.returned (.slice sa (genL t im).length sc)∧w'.ownsRow w.heap.size 3 1 (.slice sa (genL t im).length sc) (genL t im).length (nats (genL t im))∧w.grownBy w' none
set_option maxHeartbeats 800000 in
theorem sJ (B:Nat) (w:World) (v iv:Value) (t:List (List Int)) (im:List Int) (hB:B≤w.heap.size) (h:Mat B w v t) (hi:Row B w iv (ints im)) (hg:Good t im) :
  Calls Tryd.prog 60 #[v,iv] w (Gens w t im):=by
 have HI:=Kh hi;have HGD:=Kh hg
 obtain ⟨e0,he,hel,_⟩:=hg.ident
 have hle:=hg.le
 have h0:=hg.im0
 have h6:=hg.im6
 have hid:=oK B w v t hB h
 rw [qP hg.valid] at hid
 rw [he] at hid
 have HID:=Kh hid
 have hsh:=rW (m:=e0) (by omega)
 have hsh':=pX (m:=e0) (by omega)
 obtain ⟨M,hM⟩:∃ M,M=2 ^ e0:=⟨_,rfl⟩
 rw [← hM] at hsh hsh'
 have hg0:Hid (genTo t im 0=[M]):=Kh (by simp [genTo,he,hM])
 have hM4:M≤4096:=by rw [hM];have:=uG (show e0≤12 by omega);omega
 obtain ⟨ib,io,ic,rfl,_,_,_,_⟩:=hi.some_ (by rw [zM];exact h0)
 rw [zM]
 clear h hi hg he hid hM
 go_enter Tryd.func60,Tryd.ntmps60
 go_wp2_with fail
 refine HID.out.mono ?_
 rintro e w1 ⟨rfl,hg1⟩
 have hown0:(w1.alloc (.cells #[.int .i64 (M:Int)] 3)).ownsRow w.heap.size 3 1 (.slice (some ⟨w1.heap.size,0,none⟩) 1 1) 1 (nats [M]) :=
  yK (World.ownsRow_lit w1 #[.int .i64 (M:Int)] 1 (Nat.le_refl _) (by unfold maxLen;omega) (by simp)) hg1.size
 have HOWN0:=Kh hown0
 have hgA:=Kh (xG hg1 (.cells #[.int .i64 (M:Int)] 3))
 clear hown0
 go_wp2
 go_loopg [5,14] im.length (fun g ov i wr=>∃ (k:Nat) (sa:Option Addr) (sc:Nat),g+k=im.length∧i=.int .i64 k∧ov=.slice sa (k+1) sc∧wr.ownsRow w.heap.size 3 1 (.slice sa (k+1) sc) (k+1) (nats (genTo t im k))∧w.grownBy wr none)
 case atStart=>exact ⟨0,some ⟨w1.heap.size,0,none⟩,1,rfl,rfl,rfl,by rw [hg0.out];exact HOWN0.out,hgA.out⟩
 case round =>
  clear HOWN0 hgA
  obtain ⟨k,sa,sc,hg,rfl,rfl,hown,hgr⟩:=hrel
  have HG:=Kh hg;have HOWN:=Kh hown;clear hg hown
  by_cases hk:k < im.length
  ·have hk':(k:Int) < im.length:=by omega
   obtain ⟨ib',io',ic',e,_,_,_,hra⟩:=(HI.out.kept hgr (by simp)).some_ (by rw [zM];exact h0)
   simp only [Value.slice.injEq,Option.some.injEq,Addr.mk.injEq,and_true] at e
   obtain ⟨⟨rfl,rfl⟩,-,-⟩:=e
   have ck:=hra.int k hk
   have hin:=rE.1 HGD.out.inb k hk
   obtain ⟨x,hx⟩:∃ x:Nat,(x:Int)=im.getD k 0:=⟨(im.getD k 0).toNat,by omega⟩
   rw [← hx] at ck hin
   have hxl:x < t.length:=by omega
   have hsx:=rW (m:=x) (by omega)
   have hsx':=pX (m:=x) (by omega)
   obtain ⟨X,hX⟩:∃ X,X=2 ^ x:=⟨_,rfl⟩
   rw [← hX] at hsx hsx'
   have hgt:Hid (genTo t im (k+1)=genTo t im k ++ [X]):=Kh (by rw [genTo_succ hk,← hx,hX];rfl)
   clear hra hx hX hin
   go_wp2_with (at_builtin;refine app1 rfl _ _ _ rfl yG w.heap.size _ (k+1) (nats (genTo t im k)) rfl HOWN.out _ rfl rfl ?c1 ?c2 ?c3 ?_)
   case c1=>unfold maxLen;omega
   case c2=>omega
   case c3=>exact hgr.size
   intro sa' sc' w3 hown3 hg3 hlt3
   have HO3:=Kh hown3;have HG3:=Kh hg3
   clear hown3 hg3
   go_wp2
   go_roundg (im.length - (k+1))
   case measure=>have:=HG.out;omega
   case rel =>
    refine ⟨k+1,sa',sc',by omega,by go_num,rfl,?_,zF hgr HG3.out (fun q e=>(HOWN.out.lt q e).1)⟩
    rw [hgt.out,uP]
    first|exact HO3.out|(have h1:=HO3.out;rw [hsx] at h1;exact h1)|(have h1:=HO3.out;rw [hsx'] at h1;exact h1)
  ·have hkn:k=im.length:=by have:=HG.out;omega
   have hgf:Hid (genTo t im k=genL t im∧(genL t im).length=k+1):=Kh ⟨by rw [hkn,genTo_full],by rw [qE,hkn]⟩
   clear hkn
   go_wp2
   go_ret
   refine ⟨sa,sc,by rw [hgf.out.2];rfl,?_,hgr⟩
   rw [hgf.out.2,← hgf.out.1]
   exact HOWN.out
set_option maxHeartbeats 800000 in
theorem begin40_any (B:Nat) (w:World) (v iv:Value) (t:List (List Int)) (im:List Int) (hB:B≤w.heap.size) (h:Mat B w v t) (hi:Row B w iv (ints im)) (hg:Good t im) :
  Calls Tryd.prog 63 #[v,iv] w (Gens w t im):=by
 have HI:=Kh hi;have HGD:=Kh hg
 obtain ⟨e0,he,hel,_⟩:=hg.ident
 have hle:=hg.le
 have h0:=hg.im0
 have h6:=hg.im6
 have hid:=qW B w v t h (uE hg.valid).1
 rw [he] at hid
 have HID:=Kh hid
 have hsh:=rW (m:=e0) (by omega)
 have hsh':=pX (m:=e0) (by omega)
 obtain ⟨M,hM⟩:∃ M,M=2 ^ e0:=⟨_,rfl⟩
 rw [← hM] at hsh hsh'
 have hg0:Hid (genTo t im 0=[M]):=Kh (by simp [genTo,he,hM])
 have hM4:M≤4096:=by rw [hM];have:=uG (show e0≤12 by omega);omega
 obtain ⟨ib,io,ic,rfl,_,_,_,_⟩:=hi.some_ (by rw [zM];exact h0)
 rw [zM]
 clear h hi hg he hid hM
 go_enter Tryd.func63,Tryd.ntmps63
 go_wp2_with fail
 refine HID.out.mono ?_
 rintro e w ⟨rfl,rfl⟩
 have hg1:=zX w none
 have hown0:(w.alloc (.cells #[.int .i64 (M:Int)] 3)).ownsRow w.heap.size 3 1 (.slice (some ⟨w.heap.size,0,none⟩) 1 1) 1 (nats [M]) :=
  yK (World.ownsRow_lit w #[.int .i64 (M:Int)] 1 (Nat.le_refl _) (by unfold maxLen;omega) (by simp)) hg1.size
 have HOWN0:=Kh hown0
 have hgA:=Kh (xG hg1 (.cells #[.int .i64 (M:Int)] 3))
 clear hown0
 go_wp2
 go_loopg [5,15] im.length (fun g ov i wr=>∃ (k:Nat) (sa:Option Addr) (sc:Nat),g+k=im.length∧i=.int .i64 k∧ov=.slice sa (k+1) sc∧wr.ownsRow w.heap.size 3 1 (.slice sa (k+1) sc) (k+1) (nats (genTo t im k))∧w.grownBy wr none)
 case atStart=>exact ⟨0,some ⟨w.heap.size,0,none⟩,1,rfl,rfl,rfl,by rw [hg0.out];exact HOWN0.out,hgA.out⟩
 case round =>
  clear HOWN0 hgA
  obtain ⟨k,sa,sc,hg,rfl,rfl,hown,hgr⟩:=hrel
  have HG:=Kh hg;have HOWN:=Kh hown;clear hg hown
  by_cases hk:k < im.length
  ·have hk':(k:Int) < im.length:=by omega
   obtain ⟨ib',io',ic',e,_,_,_,hra⟩:=(HI.out.kept hgr (by simp)).some_ (by rw [zM];exact h0)
   simp only [Value.slice.injEq,Option.some.injEq,Addr.mk.injEq,and_true] at e
   obtain ⟨⟨rfl,rfl⟩,-,-⟩:=e
   have ck:=hra.int k hk
   have hin:=rE.1 HGD.out.inb k hk
   obtain ⟨x,hx⟩:∃ x:Nat,(x:Int)=im.getD k 0:=⟨(im.getD k 0).toNat,by omega⟩
   rw [← hx] at ck hin
   have hxl:x < t.length:=by omega
   have hsx:=rW (m:=x) (by omega)
   have hsx':=pX (m:=x) (by omega)
   obtain ⟨X,hX⟩:∃ X,X=2 ^ x:=⟨_,rfl⟩
   rw [← hX] at hsx hsx'
   have hgt:Hid (genTo t im (k+1)=genTo t im k ++ [X]):=Kh (by rw [genTo_succ hk,← hx,hX];rfl)
   clear hra hx hX hin
   go_wp2_with (at_builtin;refine app1 rfl _ _ _ rfl yG w.heap.size _ (k+1) (nats (genTo t im k)) rfl HOWN.out _ rfl rfl ?c1 ?c2 ?c3 ?_)
   case c1=>unfold maxLen;omega
   case c2=>omega
   case c3=>exact hgr.size
   intro sa' sc' w3 hown3 hg3 hlt3
   have HO3:=Kh hown3;have HG3:=Kh hg3
   clear hown3 hg3
   go_wp2
   go_roundg (im.length - (k+1))
   case measure=>have:=HG.out;omega
   case rel =>
    refine ⟨k+1,sa',sc',by omega,by go_num,rfl,?_,zF hgr HG3.out (fun q e=>(HOWN.out.lt q e).1)⟩
    rw [hgt.out,uP]
    first|exact HO3.out|(have h1:=HO3.out;rw [hsx] at h1;exact h1)|(have h1:=HO3.out;rw [hsx'] at h1;exact h1)
  ·have hkn:k=im.length:=by have:=HG.out;omega
   have hgf:Hid (genTo t im k=genL t im∧(genL t im).length=k+1):=Kh ⟨by rw [hkn,genTo_full],by rw [qE,hkn]⟩
   clear hkn
   go_wp2
   go_ret
   refine ⟨sa,sc,by rw [hgf.out.2];rfl,?_,hgr⟩
   rw [hgf.out.2,← hgf.out.1]
   exact HOWN.out
attribute [local go_sem ↓] Go.wp_at_zero Go.wp_at_succ
theorem wY {l:List Nat} {i:Nat} (hi:i < l.length):l.getD i 0∈l:=by
 simp only [List.getD,List.getElem?_eq_getElem hi];exact List.getElem_mem hi
end Go.Proofs.YtdjhoadoiknaoaaDoor
