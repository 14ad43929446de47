/- Part 7 of the proof: Sets3, Shape. -/
import Derived.Test.YtdjhoadoiknaoaaDoorZC6
set_option linter.unusedVariables false
set_option linter.unusedSimpArgs false
namespace Go.Proofs.YtdjhoadoiknaoaaDoor
open Go.RowKit
theorem shr_cast (s x:Nat):(s:Int) / 2 ^ x=((s / 2 ^ x:Nat):Int):=by
 rw [jF];rfl
theorem lY {s x:Nat} (hs:s < 9223372036854775808) (hb:s.testBit x=false):bits .and .i64 ((s:Int) / 2 ^ x) 1=0:=by
 have h1:s / 2 ^ x < 9223372036854775808:=Nat.lt_of_le_of_lt (Nat.div_le_self _ _) hs
 have:=uQ (s / 2 ^ x) 1 h1 (by omega)
 rw [Nat.testBit_eq_decide_div_mod_eq,decide_eq_false_iff_not] at hb
 rw [shr_cast]
 rw [Nat.and_one_is_mod] at this
 exact this.trans (by omega)
theorem jO {s x:Nat} (hs:s < 9223372036854775808) (hb:s.testBit x=true):bits .and .i64 ((s:Int) / 2 ^ x) 1=1:=by
 have h1:s / 2 ^ x < 9223372036854775808:=Nat.lt_of_le_of_lt (Nat.div_le_self _ _) hs
 have:=uQ (s / 2 ^ x) 1 h1 (by omega)
 rw [Nat.testBit_eq_decide_div_mod_eq,decide_eq_true_eq] at hb
 rw [shr_cast]
 rw [Nat.and_one_is_mod] at this
 exact this.trans (by omega)
theorem wH.c0 {F C p go n:Nat} {w:World} {tb:Nat→Nat→Nat} (h:wH F C w p go n tb):w.cell? ⟨p,0,none⟩=some (.int .i64 n):=by
 obtain ⟨_,_,_,h,_⟩:=h.cells
 exact h
def sF (N:Nat) (l:List Nat):List Bool:=(List.range N).map (under l)
theorem underAll_eq {N:Nat} {l:List Nat} {bs:List Bool} (hl:bs.length=N) (h:∀ s,s < N→bs.getD s false=under l s):bs=sF N l:=by
 apply List.ext_getElem
 ·simp [sF,hl]
 ·intro i h1 h2
  have:=h i (by omega)
  simp only [List.getD,List.getElem?_eq_getElem h1,Option.getD_some] at this
  simp [sF,this]
theorem sQ {N:Nat} {l:List Nat} {s:Nat} (hs:s < N):(sF N l).getD s false=under l s:=by simp [sF,List.getD,hs]
theorem uO (N:Nat) (l:List Nat):(sF N l).length=N:=by simp [sF]
set_option maxRecDepth 100000 in
set_option maxHeartbeats 1000000 in
theorem inside_any (F C:Nat) (w:World) (p go n:Nat) (tb:Nat→Nat→Nat) (lv:Value) (B:Nat) (l:List Nat) (h:wH F C w p go n tb) (hn:n≤12) (hl:Row B w lv (nats l)) (hlt:∀ b∈l,b < 2 ^ n) (hB:B≤w.heap.size) :
  Calls Tryd.prog 79 #[.pointer (some ⟨p,0,none⟩),lv] w fun e w'=>e=.returned (.slice (some ⟨w.heap.size,0,none⟩) (2 ^ n) (2 ^ n))∧Arr w' w.heap.size 4 (bls (sF (2 ^ n) l))∧w.grownBy w' none:=by
 have hlm:=hl.len_le
 rw [zN] at hlm
 unfold maxLen at hlm
 obtain ⟨la,lc,rfl⟩:=hl.shape
 rw [zN]
 have hsh:=rW (m:=n) (by omega)
 obtain ⟨N,hN⟩:∃ N,N=2 ^ n:=⟨_,rfl⟩
 have hN4:N≤4096:=by have:=uG hn;omega
 rw [← hN] at hsh ⊢
 have HN:=Kh hN;have H:=Kh h;have HL:=Kh hl;have HLT:=Kh hlt
 have c0:=h.c0
 clear h hl hlt hN
 go_enter Tryd.func79,Tryd.ntmps79
 go_wp2_with (at_make;refine make1 rfl _ _ _ rfl wD rfl _ _ _ _ N rfl rfl hsh hsh ?b1 ?b2 ?_;(case b1=>omega);(case b2=>(unfold maxLen;omega));intro w1 ha1 hg1 hz1)
 rw [← wU] at ha1
 have HA1:=Kh ha1;clear ha1
 go_loopg [18] l.length (fun g i wr=>∃ (k:Nat) (bs:List Bool),g+k=l.length∧i=.int .i64 k∧bs.length=N∧Arr wr w.heap.size 4 (bls bs)∧w.grownBy wr none∧Hid (∀ s,bs.getD s false=true ↔ s∈l.take k))
 case atStart =>
  refine ⟨0,_,rfl,rfl,by simp,HA1.out,hg1,Kh fun s=>?_⟩
  simp [List.getD,List.getElem?_replicate]
  split <;> simp
 case round =>
  clear HA1 hg1 hz1
  obtain ⟨k,bs,hgk,rfl,hbl,harr,hgr,hmem⟩:=hrel
  have HGK:=Kh hgk;have HBL:=Kh hbl;have HARR:=Kh harr
  have hszr:=harr.lt
  clear hgk hbl harr
  by_cases hk:k < l.length
  ·have hk':(k:Int) < l.length:=by omega
   obtain ⟨gb,gf,gcap,e,_,_,_,_⟩:=HL.out.some_ (by rw [zN];omega)
   simp only [Value.slice.injEq] at e
   obtain ⟨rfl,-,-⟩:=e
   obtain ⟨gb',go',gcap',e,_,_,_,hra⟩:=(HL.out.kept hgr (by simp)).some_ (by rw [zN];omega)
   simp only [Value.slice.injEq,Option.some.injEq,Addr.mk.injEq,and_true] at e
   obtain ⟨⟨rfl,rfl⟩,-,-⟩:=e
   have ck:=hra.nat k hk
   obtain ⟨x,hx⟩:∃ x,x=l.getD k 0:=⟨_,rfl⟩
   have hxl:x < N:=by rw [hx,HN.out];exact jM HLT.out hk
   have hxl':(x:Int) < N:=by omega
   rw [← hx] at ck
   have cx:=HARR.out.bool x (by rw [HBL.out];exact hxl)
   have fx:=HARR.out.frozen x
   obtain ⟨u,hu⟩:∃ u,u=bs.getD x false:=⟨_,rfl⟩
   rw [← hu] at cx
   have hset:=HARR.out.bool_set x (by rw [HBL.out];exact hxl) true
   have HSET:=Kh hset;have HX:=Kh hx
   clear hra hset hx hu
   go_wp2
   go_roundg (l.length - (k+1))
   case measure=>have:=HGK.out;omega
   case rel =>
    refine ⟨k+1,bs.set x true,by omega,by go_num,by rw [List.length_set];exact HBL.out,HSET.out,zF hgr (zH _ _ _) (by simp),Kh fun s=>?_⟩
    rw [yF (d:=0) hk,List.mem_append,List.mem_singleton,← HX.out]
    by_cases e:x=s
    ·subst e
     rw [xO _ _ _ _ (by rw [HBL.out];exact hxl)];simp
    ·rw [getD_set_ne _ _ _ _ _ e,hmem.out s]
     exact ⟨.inl,fun h=>h.elim id (fun h'=>absurd h'.symm e)⟩
  ·have hk2:k=l.length:=by have:=HGK.out;omega
   have hmem2:Hid (∀ s,bs.getD s false=true ↔ s∈l):=by
    have:=hmem.out
    rw [hk2,List.take_length] at this
    exact Kh this
   clear hmem hk2
   go_wp2
   go_loopg [8] N (fun g i wr=>∃ (k:Nat) (bs:List Bool),g=k∧i=.int .i64 ((k:Int) - 1)∧k≤N∧bs.length=N∧Arr wr w.heap.size 4 (bls bs)∧w.grownBy wr none∧Hid (∀ s,s < k→(bs.getD s false=true ↔ s∈l))∧Hid (∀ s,k≤s→s < N→bs.getD s false=under l s))
   case atStart=>exact ⟨N,bs,rfl,rfl,Nat.le_refl _,HBL.out,HARR.out,hgr,Kh fun s _=>hmem2.out s,Kh fun s h1 h2=>by omega⟩
   case round =>
    clear hmem2 HBL HARR hgr HGK
    obtain ⟨k2,bs2,hgk2,rfl,hk2,hbl2,harr2,hgr2,hm1,hm2⟩:=hrel
    have HGK2:=Kh hgk2;have HBL2:=Kh hbl2;have HARR2:=Kh harr2
    clear hgk2 hbl2 harr2
    by_cases hp:0 < k2
    ·obtain ⟨s,rfl⟩:∃ s,k2=s+1:=⟨k2 - 1,by omega⟩
     have e1:((s+1:Nat):Int) - 1=s:=by omega
     rw [e1]
     clear e1
     have hsN:(s:Int) < N:=by omega
     go_wp2
     go_loopg [9] n (fun g i wr=>∃ (x:Nat) (c:Bool),g+x=n∧i=.int .i64 x∧Arr wr w.heap.size 4 (bls (bs2.set s c))∧w.grownBy wr none∧Hid (c=true ↔ s∈l∨∃ y,y < x∧s.testBit y=false∧under l (s ||| 1 <<< y)=true))
     case atStart =>
      refine ⟨0,bs2.getD s false,rfl,rfl,?_,hgr2,Kh ?_⟩
      ·have:bs2.set s (bs2.getD s false)=bs2:=by
        apply List.ext_getElem
        ·simp
        ·intro i h1 h2
         rw [List.getElem_set]
         split
         ·rename_i e;subst e;simp [List.getD,List.getElem?_eq_getElem h2]
         ·rfl
       rw [this];exact HARR2.out
      ·rw [hm1.out s (by omega)]
       exact ⟨.inl,fun h=>h.elim id (fun ⟨y,hy,_⟩=>absurd hy (by omega))⟩
     case round =>
      clear HARR2 hgr2
      obtain ⟨x,c,hgx,rfl,harr3,hgr3,hc⟩:=hrel
      have HGX:=Kh hgx;have HARR3:=Kh harr3
      have hlen3:(bs2.set s c).length=N:=by rw [List.length_set];exact HBL2.out
      have cs:=HARR3.out.bool s (by rw [hlen3];omega)
      have fs:=HARR3.out.frozen s
      rw [xO _ _ _ _ (by rw [HBL2.out];omega)] at cs
      have c0w:=(H.out.kept hgr3 (by simp)).c0
      have HLEN3:=Kh hlen3
      have hs63:s < 9223372036854775808:=by omega
      clear hgx harr3 hlen3
      by_cases hx:x < n
      ·cases c
       ·have hset:=fun v=>HARR3.out.bool_set s (by rw [HLEN3.out];omega) v
        have HSET:=Kh hset
        clear hset
        cases hbit:s.testBit x
        ·have hb:=lY hs63 hbit
         have hsx:=rW (m:=x) (by omega)
         have hlt:=kF (show s < 2 ^ n by rw [← HN.out];omega) hx
         have hgt:=or_one_gt hbit
         rw [Nat.one_shiftLeft,← HN.out] at hlt
         rw [Nat.one_shiftLeft] at hgt
         obtain ⟨M,hM⟩:∃ M,M=2 ^ x:=⟨_,rfl⟩
         rw [← hM] at hsx hlt hgt
         have hM4:M≤4096:=by rw [hM];have:=uG (show x≤12 by omega);omega
         have e4:bits .or .i64 (s:Int) (M:Int)=((s ||| M:Nat):Int):=tZ s M (by omega) (by omega)
         obtain ⟨S2,hS⟩:∃ S2,S2=s ||| M:=⟨_,rfl⟩
         rw [← hS] at e4 hlt hgt
         have hlt':(S2:Int) < N:=by omega
         have c2:=HARR3.out.bool S2 (by rw [HLEN3.out];exact hlt)
         rw [getD_set_ne _ _ _ _ _ (by omega),hm2.out S2 (by omega) hlt] at c2
         obtain ⟨v,hv⟩:∃ v,v=under l S2:=⟨_,rfl⟩
         rw [← hv] at c2
         have hcv:Hid (v=true ↔ s∈l∨∃ y,y < x+1∧s.testBit y=false∧under l (s ||| 1 <<< y)=true):=by
          have h1:=hc.out
          have e:under l (s ||| 1 <<< x)=v:=by rw [Nat.one_shiftLeft,← hM,← hS,hv]
          constructor
          ·intro h
           exact .inr ⟨x,by omega,hbit,by rw [e];exact h⟩
          ·rintro (h|⟨y,hy,h2,h3⟩)
           ·have:=h1.2 (.inl h);cases this
           ·rcases Nat.lt_succ_iff_lt_or_eq.1 hy with hy|rfl
            ·have:=h1.2 (.inr ⟨y,hy,h2,h3⟩);cases this
            ·rw [e] at h3;exact h3
         have HBIT:=Kh hbit
         clear hbit hS hM hv
         go_wp2
         go_roundg (n - (x+1))
         case measure=>have:=HGX.out;omega
         case rel =>
          refine ⟨x+1,v,by omega,by go_num,?_,zF hgr3 (zH _ _ _) (by simp),hcv⟩
          have:=HSET.out v
          rw [List.set_set] at this
          exact this
        ·have hb:=jO hs63 hbit
         have hcv:Hid (false=true ↔ s∈l∨∃ y,y < x+1∧s.testBit y=false∧under l (s ||| 1 <<< y)=true):=by
          have h1:=hc.out
          constructor
          ·intro h;cases h
          ·rintro (h|⟨y,hy,h2,h3⟩)
           ·exact h1.2 (.inl h)
           ·rcases Nat.lt_succ_iff_lt_or_eq.1 hy with hy|rfl
            ·exact h1.2 (.inr ⟨y,hy,h2,h3⟩)
            ·rw [hbit] at h2;cases h2
         have HBIT:=Kh hbit
         clear hbit
         go_wp2
         go_roundg (n - (x+1))
         case measure=>have:=HGX.out;omega
         case rel =>
          refine ⟨x+1,false,by omega,by go_num,?_,zF hgr3 (zH _ _ _) (by simp),hcv⟩
          have:=HSET.out false
          rw [List.set_set] at this
          exact this
       ·have hu:Hid (under l s=true):=by
         have h1:=hc.out.1 rfl
         refine Kh ((under_step HLT.out s).2 (h1.imp id fun ⟨y,hy,h2,h3⟩=>⟨y,by omega,h2,h3⟩))
        go_wp2
        go_roundg s
        case measure=>have:=HGK2.out;omega
        case rel =>
         refine ⟨s,bs2.set s true,rfl,by go_num,by omega,HLEN3.out,HARR3.out,hgr3,Kh fun z hz=>?_,Kh fun z h1 h2=>?_⟩
         ·rw [getD_set_ne _ _ _ _ _ (by omega)];exact hm1.out z (by omega)
         ·by_cases e:s=z
          ·subst e;rw [xO _ _ _ _ (by rw [HBL2.out];omega),hu.out]
          ·rw [getD_set_ne _ _ _ _ _ e];exact hm2.out z (by omega) h2
      ·have hu:Hid (under l s=c):=by
        have hxn:x=n:=by have:=HGX.out;omega
        have h1:=hc.out
        rw [hxn] at h1
        refine Kh ?_
        rw [Bool.eq_iff_iff]
        exact (under_step HLT.out s).trans h1.symm
       go_wp2
       go_roundg s
       case measure=>have:=HGK2.out;omega
       case rel =>
        refine ⟨s,bs2.set s c,rfl,by go_num,by omega,HLEN3.out,HARR3.out,hgr3,Kh fun z hz=>?_,Kh fun z h1 h2=>?_⟩
        ·rw [getD_set_ne _ _ _ _ _ (by omega)];exact hm1.out z (by omega)
        ·by_cases e:s=z
         ·subst e;rw [xO _ _ _ _ (by rw [HBL2.out];omega),hu.out]
         ·rw [getD_set_ne _ _ _ _ _ e];exact hm2.out z (by omega) h2
    ·have hk0:k2=0:=by omega
     have hall:Hid (bs2=sF N l):=by
      have h2:=hm2.out
      exact Kh (underAll_eq HBL2.out (fun s hs=>h2 s (by omega) hs))
     clear hk0
     go_wp2
     go_ret
     exact ⟨rfl,by rw [← hall.out];exact HARR2.out,hgr2⟩
theorem shapeE_big {t:List (List Int)} (h:400 < t.length):uF t=3:=by rw [uF,if_pos h]
theorem rM {t:List (List Int)} (h:¬ 400 < t.length) {x:Nat} (hx:x < t.length) (hb:rowOk t.length (t.getD x [])=false):uF t=4:=by
 rw [uF,if_neg h,if_neg (by omega),if_neg]
 intro ha
 have:=List.all_eq_true.1 ha t[x] (List.getElem_mem hx)
 rw [List.getD,List.getElem?_eq_getElem hx] at hb
 rw [Option.getD_some,this] at hb;cases hb
theorem shapeE_ok {t:List (List Int)} (h:¬ 400 < t.length) (h0:0 < t.length) (ha:∀ x,x < t.length→rowOk t.length (t.getD x [])=true):uF t=0:=by
 rw [uF,if_neg h,if_neg (by omega),if_pos]
 rw [List.all_eq_true]
 intro r hr
 obtain ⟨x,hx,rfl⟩:=List.getElem_of_mem hr
 have:=ha x hx
 rwa [List.getD,List.getElem?_eq_getElem hx] at this
theorem rowOk_len {n:Nat} {r:List Int} (h:r.length≠n):rowOk n r=false:=by simp [rowOk,h]
theorem mH {n:Nat} {r:List Int} {y:Nat} (hy:y < r.length) (h:r.getD y 0 < 0∨n≤r.getD y 0):rowOk n r=false:=by
 rw [← Bool.not_eq_true]
 intro hr
 have:=(rX.1 hr).2 y hy
 omega
def RowsOk (t:List (List Int)) (k:Nat):Prop:=∀ x,x < k→rowOk t.length (t.getD x [])=true
def jW (n:Nat) (r:List Int) (j:Nat):Prop:=∀ y,y < j→0≤r.getD y 0∧r.getD y 0 < n
set_option maxHeartbeats 400000 in
theorem shape14_any (B:Nat) (w:World) (v:Value) (t:List (List Int)) (h:Mat B w v t) :
  Calls Tryd.prog 118 #[v] w fun e w'=>e=.returned (.int .i64 (uF t))∧w=w':=by
 by_cases h0:0 < t.length
 ·obtain ⟨b,off,cap,A,C,rfl,hc1,hc2,hm⟩:=h.some_ h0
  have hmx:cap≤9223372036854775807:=by unfold maxLen at hc2;omega
  have HM:=Kh hm;clear hm
  by_cases h4:400 < t.length
  ·go_enter Tryd.func118,Tryd.ntmps118
   go_wp2
   go_ret
   exact ⟨yD (shapeE_big h4).symm,rfl⟩
  ·have hne:((t.length:Int) == 0)=false:=by rw [beq_eq_false_iff_ne];omega
   go_enter Tryd.func118,Tryd.ntmps118
   go_wp2
   go_loopg [15] t.length (fun g i wr=>∃ k:Nat,g+k=t.length∧i=.int .i64 k∧RowsOk t k∧w=wr)
   case atStart=>exact ⟨0,rfl,rfl,fun x hx=>absurd hx (by omega),rfl⟩
   case round =>
    obtain ⟨k,hg,rfl,hok,rfl⟩:=hrel
    have OK:=Kh hok;clear hok
    by_cases hk:k < t.length
    ·have hcx:=HM.out.hd k hk
     have hrow:=HM.out.row k hk
     have hrl:=hrow.len_le
     rw [zM] at hrl
     unfold maxLen at hrl
     obtain ⟨r,hr⟩:∃ r,r=t.getD k []:=⟨_,rfl⟩
     rw [← hr] at hcx hrow hrl
     have HG:=Kh hg;have HR:=Kh hr;clear hg hr
     by_cases hl:r.length=t.length
     ·have HLL:=Kh hl
      have hl':((r.length:Int) != t.length)=false:=by rw [hl];simp
      obtain ⟨rb,ro,rc,e,hb,h1,h2,hra⟩:=hrow.some_ (by rw [zM];omega)
      simp only [Value.slice.injEq] at e
      obtain ⟨eA,-,rfl⟩:=e
      rw [eA] at hcx
      have HA:=Kh eA;have RA:=Kh hra
      rw [hl] at hcx
      rw [zM,hl] at h1
      clear eA hra hl
      go_wp2
      go_loopg [26] t.length (fun g j wr'=>∃ y:Nat,g+y=t.length∧j=.int .i64 y∧jW t.length r y∧w=wr')
      case atStart=>exact ⟨0,rfl,rfl,fun x hx=>absurd hx (by omega),rfl⟩
      case round =>
       obtain ⟨y,hg,rfl,hok,rfl⟩:=hrel
       have OKY:=Kh hok;clear hok
       by_cases hy:y < t.length
       ·have hcy:=RA.out.int y (by rw [HLL.out];exact hy)
        obtain ⟨z,hz⟩:∃ z,z=r.getD y 0:=⟨_,rfl⟩
        rw [← hz] at hcy
        have HZ:=Kh hz;have HG2:=Kh hg;clear hz hg
        by_cases hb1:z < 0
        ·go_wp2
         go_ret
         exact ⟨yD (rM h4 hk (mH (y:=y) (by rw [← HR.out,HLL.out];exact hy) (by rw [← HR.out,← HZ.out];exact .inl hb1))).symm,rfl⟩
        ·by_cases hb2:(t.length:Int)≤z
         ·go_wp2
          go_ret
          exact ⟨yD (rM h4 hk (mH (y:=y) (by rw [← HR.out,HLL.out];exact hy) (by rw [← HR.out,← HZ.out];exact .inr hb2))).symm,rfl⟩
         ·go_wp2
          go_roundg (t.length - (y+1))
          case measure=>have:=HG2.out;omega
          case rel =>
           refine ⟨y+1,by omega,by go_num,fun x hx=>?_,rfl⟩
           rcases Nat.lt_succ_iff_lt_or_eq.1 hx with hx|rfl
           ·exact OKY.out x hx
           ·rw [← HZ.out];omega
       ·go_wp2
        go_roundg (t.length - (k+1))
        case measure=>have:=HG.out;omega
        case rel =>
         refine ⟨k+1,by omega,by go_num,fun x hx=>?_,rfl⟩
         rcases Nat.lt_succ_iff_lt_or_eq.1 hx with hx|rfl
         ·exact OK.out x hx
         ·rw [← HR.out,rX]
          exact ⟨HLL.out,fun z hz=>OKY.out z (by rw [HLL.out] at hz;omega)⟩
     ·have hl':((r.length:Int) != t.length)=true:=by rw [bne_iff_ne];omega
      have HLL:=Kh hl;clear hl
      go_wp2
      go_ret
      exact ⟨yD (rM h4 hk (by rw [← HR.out];exact rowOk_len HLL.out)).symm,rfl⟩
    ·go_wp2
     go_ret
     exact ⟨yD (shapeE_ok h4 h0 (fun x hx=>OK.out x (by omega))).symm,rfl⟩
 ·obtain ⟨a,c,e⟩:=h.shape
  have ht:t=[]:=List.eq_nil_of_length_eq_zero (by omega)
  subst ht
  subst e
  clear h0
  go_enter Tryd.func118,Tryd.ntmps118
  go_wp2
  go_ret
  exact ⟨rfl,rfl⟩
set_option maxHeartbeats 400000 in
theorem shape_any (B:Nat) (w:World) (v:Value) (t:List (List Int)) (h:Mat B w v t) :
  Calls Tryd.prog 92 #[v] w fun e w'=>e=.returned (.int .i64 (uF t))∧w=w':=by
 by_cases h0:0 < t.length
 ·obtain ⟨b,off,cap,A,C,rfl,hc1,hc2,hm⟩:=h.some_ h0
  have hmx:cap≤9223372036854775807:=by unfold maxLen at hc2;omega
  have HM:=Kh hm;clear hm
  by_cases h4:400 < t.length
  ·go_enter Tryd.func92,Tryd.ntmps92
   go_wp2
   go_ret
   exact ⟨yD (shapeE_big h4).symm,rfl⟩
  ·have hne:((t.length:Int) == 0)=false:=by rw [beq_eq_false_iff_ne];omega
   go_enter Tryd.func92,Tryd.ntmps92
   go_wp2
   go_loopg [15] t.length (fun g i wr=>∃ k:Nat,g+k=t.length∧i=.int .i64 k∧RowsOk t k∧w=wr)
   case atStart=>exact ⟨0,rfl,rfl,fun x hx=>absurd hx (by omega),rfl⟩
   case round =>
    obtain ⟨k,hg,rfl,hok,rfl⟩:=hrel
    have OK:=Kh hok;clear hok
    by_cases hk:k < t.length
    ·have hcx:=HM.out.hd k hk
     have hrow:=HM.out.row k hk
     have hrl:=hrow.len_le
     rw [zM] at hrl
     unfold maxLen at hrl
     obtain ⟨r,hr⟩:∃ r,r=t.getD k []:=⟨_,rfl⟩
     rw [← hr] at hcx hrow hrl
     have HG:=Kh hg;have HR:=Kh hr;clear hg hr
     by_cases hl:r.length=t.length
     ·have HLL:=Kh hl
      have hl':((r.length:Int) != t.length)=false:=by rw [hl];simp
      obtain ⟨rb,ro,rc,e,hb,h1,h2,hra⟩:=hrow.some_ (by rw [zM];omega)
      simp only [Value.slice.injEq] at e
      obtain ⟨eA,-,rfl⟩:=e
      rw [eA] at hcx
      have HA:=Kh eA;have RA:=Kh hra
      rw [hl] at hcx
      rw [zM,hl] at h1
      clear eA hra hl
      go_wp2
      go_loopg [26] t.length (fun g j wr'=>∃ y:Nat,g+y=t.length∧j=.int .i64 y∧jW t.length r y∧w=wr')
      case atStart=>exact ⟨0,rfl,rfl,fun x hx=>absurd hx (by omega),rfl⟩
      case round =>
       obtain ⟨y,hg,rfl,hok,rfl⟩:=hrel
       have OKY:=Kh hok;clear hok
       by_cases hy:y < t.length
       ·have hcy:=RA.out.int y (by rw [HLL.out];exact hy)
        obtain ⟨z,hz⟩:∃ z,z=r.getD y 0:=⟨_,rfl⟩
        rw [← hz] at hcy
        have HZ:=Kh hz;have HG2:=Kh hg;clear hz hg
        by_cases hb1:z < 0
        ·go_wp2
         go_ret
         exact ⟨yD (rM h4 hk (mH (y:=y) (by rw [← HR.out,HLL.out];exact hy) (by rw [← HR.out,← HZ.out];exact .inl hb1))).symm,rfl⟩
        ·by_cases hb2:(t.length:Int)≤z
         ·go_wp2
          go_ret
          exact ⟨yD (rM h4 hk (mH (y:=y) (by rw [← HR.out,HLL.out];exact hy) (by rw [← HR.out,← HZ.out];exact .inr hb2))).symm,rfl⟩
         ·go_wp2
          go_roundg (t.length - (y+1))
          case measure=>have:=HG2.out;omega
          case rel =>
           refine ⟨y+1,by omega,by go_num,fun x hx=>?_,rfl⟩
           rcases Nat.lt_succ_iff_lt_or_eq.1 hx with hx|rfl
           ·exact OKY.out x hx
           ·rw [← HZ.out];omega
       ·go_wp2
        go_roundg (t.length - (k+1))
        case measure=>have:=HG.out;omega
        case rel =>
         refine ⟨k+1,by omega,by go_num,fun x hx=>?_,rfl⟩
         rcases Nat.lt_succ_iff_lt_or_eq.1 hx with hx|rfl
         ·exact OK.out x hx
         ·rw [← HR.out,rX]
          exact ⟨HLL.out,fun z hz=>OKY.out z (by rw [HLL.out] at hz;omega)⟩
     ·have hl':((r.length:Int) != t.length)=true:=by rw [bne_iff_ne];omega
      have HLL:=Kh hl;clear hl
      go_wp2
      go_ret
      exact ⟨yD (rM h4 hk (by rw [← HR.out];exact rowOk_len HLL.out)).symm,rfl⟩
    ·go_wp2
     go_ret
     exact ⟨yD (shapeE_ok h4 h0 (fun x hx=>OK.out x (by omega))).symm,rfl⟩
 ·obtain ⟨a,c,e⟩:=h.shape
  have ht:t=[]:=List.eq_nil_of_length_eq_zero (by omega)
  subst ht
  subst e
  clear h0
  go_enter Tryd.func92,Tryd.ntmps92
  go_wp2
  go_ret
  exact ⟨rfl,rfl⟩
end Go.Proofs.YtdjhoadoiknaoaaDoor
