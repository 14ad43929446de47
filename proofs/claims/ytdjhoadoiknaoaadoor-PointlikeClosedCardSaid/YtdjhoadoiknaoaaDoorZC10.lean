/- Part 10 of the proof: Span2, Valid, Prod. -/
import Derived.Test.YtdjhoadoiknaoaaDoorZC9
set_option linter.unusedVariables false
set_option linter.unusedSimpArgs false
namespace Go.Proofs.YtdjhoadoiknaoaaDoor
open Go.RowKit
structure GInv (t:List (List Int)) (gs made:List Nat) (k:Nat):Prop where
 gen:∀ x∈made,Gen t gs x
 all:∀ x,x < k→x∈made
 lt:∀ g∈gs,g < t.length
 le:gs.length≤k
theorem GInv.add {t : List (List Int)} {gs made : List Nat} {k x y : Nat} (h : GInv t gs made k) (hx : x ∈ made) (hy : y ∈ made) : GInv t gs (addTo made (entN t x y)) k :=
 ⟨fun z hz => by
  rcases pH.1 hz with hz | rfl
  ·exact h.gen z hz
  ·exact .mul x y (h.gen x hx) (h.gen y hy), fun z hz => pH.2 (.inl (h.all z hz)), h.lt, h.le⟩
theorem GInv.next {t : List (List Int)} {gs made : List Nat} {k : Nat} (h : GInv t gs made k) (hk : k ∈ made) : GInv t gs made (k + 1) :=
 ⟨h.gen, fun x hx => by
  rcases Nat.lt_succ_iff_lt_or_eq.1 hx with hx | rfl
  ·exact h.all x hx
  ·exact hk, h.lt, by have := h.le; omega⟩
theorem GInv.new {t : List (List Int)} {gs made : List Nat} {k : Nat} (h : GInv t gs made k) (hk : k < t.length) : GInv t (gs ++ [k]) (addTo made k) (k + 1) :=
 ⟨fun z hz => by
  rcases pH.1 hz with hz | rfl
  ·exact (h.gen z hz).mono (fun g hg => List.mem_append_left _ hg)
  ·exact .base _ (by simp), fun x hx => by
  rw [pH]
  rcases Nat.lt_succ_iff_lt_or_eq.1 hx with hx | rfl
  ·exact .inl (h.all x hx)
  ·exact .inr rfl, fun g hg => by
  rcases List.mem_append.1 hg with hg | hg
  ·exact h.lt g hg
  ·simp at hg; omega, by have := h.le; simp; omega⟩
def SpanPost (w:World) (t:List (List Int)) (e:Ending) (w':World):Prop :=
 ∃ (sa:Option Addr) (sc:Nat) (gs:List Nat),e=.returned (.slice sa gs.length sc)∧Row w'.heap.size w' (.slice sa gs.length sc) (nats gs)∧(∀ g∈gs,g < t.length)∧(∀ x,x < t.length→Gen t gs x)∧w.grownBy w' none
structure SG (w w':World) (bi bm g:Nat) (t:List (List Int)) (gv mv:Value) (bs:List Bool) (gs made:List Nat) (k:Nat):Prop where
 sp:Sp w w' bi bm g t.length mv bs made
 own:w'.ownsRow w.heap.size 3 1 gv gs.length (nats gs)
 ap:Apart gv mv
 inv:GInv t gs made k
theorem SG.add {w w1 w2:World} {bi bm g:Nat} {t:List (List Int)} {gv mv mv':Value} {bs bs':List Bool} {gs made:List Nat} {k x y:Nat} (h:SG w w1 bi bm g t gv mv bs gs made k) (hx:x∈made) (hy:y∈made)
  (h1:Sp w w2 bi bm g t.length mv' bs' (addTo made (entN t x y))) (hk:Keep w1 w2 bm g mv mv'):SG w w2 bi bm g t gv mv' bs' gs (addTo made (entN t x y)) k :=
 ⟨h1,(hk.gens h.sp h.own h.ap).1,(hk.gens h.sp h.own h.ap).2,h.inv.add hx hy⟩
theorem getD_mem {l:List Nat} {i:Nat} (hi:i < l.length):l.getD i 0∈l:=by
 simp only [List.getD,List.getElem?_eq_getElem hi];exact List.getElem_mem hi
set_option maxRecDepth 100000 in
set_option maxHeartbeats 2000000 in
theorem spanning_any (B:Nat) (w:World) (v:Value) (t:List (List Int)) (hB:B≤w.heap.size) (h:Mat B w v t) (hs:Shape t) :
  Calls Tryd.prog 94 #[v] w (SpanPost w t):=by
 obtain ⟨b,off,cap,RB,RO,RC,rfl,hc1,hc2,hq⟩:=h.sq hs
 have hmx:cap≤9223372036854775807:=by unfold maxLen at hc2;omega
 have hpos:=hs.pos
 have hle:=hs.le
 have HQ:=Kh hq;have HS:=Kh hs
 clear hq hs h
 go_enter Tryd.func94,Tryd.ntmps94
 go_wp2_with (at_make;refine make1 rfl _ _ _ rfl wD rfl _ _ _ _ t.length rfl rfl rfl rfl ?b1 ?b2 ?_;(case b1=>omega);(case b2=>(unfold maxLen;omega));intro w1 ha1 hg1 hz1)
 rw [← wU] at ha1
 rw [zO] at ha1 hz1
 have hbm:=zE (heap_alloc_new w (.cells #[.slice none 0 0] 22)) hg1 (by simp)
 have hgw:=zG (Ga w (.cells #[.slice none 0 0] 22) none) hg1
 have hSP:Sp w (w1.alloc (.cells #[.slice (some ⟨w.heap.size+1,0,none⟩) t.length t.length] 25)) w1.heap.size w.heap.size (w.heap.size+1) t.length (.slice none 0 0) (List.replicate t.length false) []:=by
  have hA:=Ga w1 (.cells #[.slice (some ⟨w.heap.size+1,0,none⟩) t.length t.length] 25) none
  refine ⟨heap_alloc_new w1 _,zE hbm hA (by simp),World.ownsRow_nil _ _ _ _,⟨none,0,rfl⟩,ha1.kept hA (by simp),by simp,by simp [List.count_replicate],fun x hx=>?_,by simp,⟨by omega,Nat.le_refl _,by omega⟩,zG hgw hA⟩
  simp [List.getD,List.getElem?_replicate,hx]
 have HSP:=Kh hSP
 clear hSP hbm hgw ha1 hg1
 go_loopg [3,7,18] t.length (fun g gv mul i wr=>∃ (k p:Nat) (sa:Option Addr) (sc:Nat) (gs made:List Nat) (mv:Value) (bs:List Bool),g+k=t.length∧gv=.slice sa gs.length sc∧mul=.int .i64 p∧i=.int .i64 k∧p≤made.length ∧
   SG w wr w1.heap.size w.heap.size (w.heap.size+1) t (.slice sa gs.length sc) mv bs gs made k)
 case atStart=>exact ⟨0,0,none,0,[],[],.slice none 0 0,_,rfl,rfl,rfl,rfl,Nat.le_refl _,HSP.out,World.ownsRow_nil _ _ _ _,fun k hk=>by simp [Value.ownBlock] at hk,⟨by simp,fun x hx=>absurd hx (by omega),by simp,by simp⟩⟩
 case round =>
  clear HSP hz1
  obtain ⟨k,p,sa,sc,gs,made,mv,bs,hgk,rfl,rfl,rfl,hp,hst⟩:=hrel
  have HG:=Kh hgk;have ST:=Kh hst;clear hgk hst
  have hml:=ST.out.sp.made_le
  have ci:=zI ST.out.sp.box1 0 (by simp)
  simp only [List.getElem_toArray,List.getElem_cons_zero] at ci
  by_cases hk:k < t.length
  ·have hk':(k:Int) < t.length:=by omega
   have ck:=ST.out.sp.arr.bool k (by rw [ST.out.sp.len];exact hk)
   have hgl:=ST.out.inv.le
   cases hbk:bs.getD k false
   ·rw [hbk] at ck
    have HBK:=Kh hbk;clear hbk
    have howng:=ST.out.own
    obtain ⟨wo,rfl⟩:∃ wo:World,wo=wr:=⟨_,rfl⟩
    go_wp2_with (at_builtin;refine app1s rfl _ _ _ rfl yG w.heap.size _ gs.length (nats gs) rfl howng _ rfl rfl ?c1 ?c2 ?c3 ?_)
    case c1=>unfold maxLen;omega
    case c2=>omega
    case c3=>exact ST.out.sp.fr.size
    intro sa1 sc1 w2 hown2 hg2 hlt2 hmv2
    have hsp2:Hid (Sp w w2 w1.heap.size w.heap.size (w.heap.size+1) t.length mv bs made∧Apart (.slice sa1 (gs.length+1) sc1) mv):=by
     have S:=ST.out.sp
     have hap:=ST.out.ap
     have n1:=zS howng S.box1 (by decide)
     have n2:=zS howng S.box2 (by decide)
     have n3:(Value.slice sa gs.length sc).ownBlock≠some (w.heap.size+1):=by
      obtain ⟨cur,rest,hh,_⟩:=S.arr
      exact zS howng hh (by decide)
     refine ⟨⟨zE S.box1 hg2 n1,zE S.box2 hg2 n2,owns_of_block S.own (fun q hq=>hg2.block q (S.own.lt q hq).2 (fun e=>hap q e.symm hq)),S.shape,S.arr.kept hg2 n3,S.len,S.cnt,S.mem,S.lt,S.lo,zF S.fr hg2 (fun x e=>(howng.lt x e).1)⟩,fun q hq=>?_⟩
     rcases hmv2 with e|⟨_,e⟩
     ·rw [e] at hq;exact hap q hq
     ·intro hq'
      have:=e q hq
      have:=(S.own.lt q hq').2
      omega
    have HO2:=Kh hown2
    clear howng hown2 hg2 hmv2 ci ck
    go_wp2_with fail
    refine (iJ w w2 w1.heap.size w.heap.size (w.heap.size+1) t.length k mv bs made hk hle hsp2.out.1).mono ?_
    rintro e w3 ⟨rfl,bs3,mv3,hsp3,hkeep⟩
    have hst3:SG w w3 w1.heap.size w.heap.size (w.heap.size+1) t (.slice sa1 (gs.length+1) sc1) mv3 bs3 (gs ++ [k]) (addTo made k) (k+1):=by
     have hg3:=hkeep.gens hsp2.out.1 (show w2.ownsRow w.heap.size 3 1 (.slice sa1 (gs.length+1) sc1) (gs.length+1) (nats (gs ++ [k])) by rw [uP];exact HO2.out) hsp2.out.2
     exact ⟨hsp3,by rw [List.length_append];exact hg3.1,hg3.2,ST.out.inv.new hk⟩
    have HST3:=Kh hst3
    have hp3:p≤(addTo made k).length:=by
     obtain ⟨r,hr⟩:=oP made k
     rw [hr,List.length_append];omega
    have hgl3:(gs ++ [k]).length=gs.length+1:=by simp
    have HGL:=Kh hgl3
    clear hsp3 hkeep hst3 hsp2 HO2 hgl3
    go_wp2
    go_loopg [7] (t.length - p) (fun g mul wr=>∃ (p:Nat) (made:List Nat) (mv:Value) (bs:List Bool),g+p=t.length∧mul=.int .i64 p∧p≤made.length ∧
      SG w wr w1.heap.size w.heap.size (w.heap.size+1) t (.slice sa1 (gs.length+1) sc1) mv bs (gs ++ [k]) made (k+1))
    case atStart=>exact ⟨p,_,_,_,by have:=HST3.out.sp.made_le;omega,rfl,hp3,HST3.out⟩
    case round =>
     clear HST3 hp3
     obtain ⟨p,made,mv,bs,hgp,rfl,hp,hst⟩:=hrel
     have HGP:=Kh hgp;have ST:=Kh hst;clear hgp hst
     have hml:=ST.out.sp.made_le
     have cm:=zI ST.out.sp.box2 0 (by simp)
     simp only [List.getElem_toArray,List.getElem_cons_zero] at cm
     obtain ⟨ma,mc,hmv⟩:=ST.out.sp.shape
     rw [hmv] at cm
     by_cases hpm:p < made.length
     ·obtain ⟨kb,hma,hmc1,hmc2,harr⟩:=yQ (hmv ▸ ST.out.sp.own) (by omega)
      subst hma
      have hpm':(p:Int) < made.length:=by omega
      have cp:=harr.nat p hpm
      obtain ⟨x,hx⟩:∃ x,x=made.getD p 0:=⟨_,rfl⟩
      have hxm:x∈made:=by rw [hx];exact getD_mem hpm
      have hxl:=ST.out.sp.lt x hxm
      rw [← hx] at cp
      unfold maxLen at hmc2
      have hpre:Arr wr kb 3 (nats (made.take (p+1))):=by
       have:=harr
       rw [← List.take_append_drop (p+1) made,nats_append] at this
       exact this.front
      have HPRE:=Kh hpre;have HX:=Kh hx;have HXM:=Kh hxm
      have hpl:(made.take (p+1)).length=p+1:=by rw [List.length_take];omega
      have HPL:=Kh hpl
      have hmv':=Kh hmv
      clear hmv hpre hx hxm harr hpl
      obtain ⟨wo,rfl⟩:∃ wo:World,wo=wr:=⟨_,rfl⟩
      go_wp2
      go_loopg [47] (p+1) (fun g jv wr=>∃ (j:Nat) (made':List Nat) (mv':Value) (bs':List Bool),g+j=p+1∧jv=.int .i64 j∧(∃ r,made'=made ++ r)∧Arr wr kb 3 (nats (made.take (p+1))) ∧
        SG w wr w1.heap.size w.heap.size (w.heap.size+1) t (.slice sa1 (gs.length+1) sc1) mv' bs' (gs ++ [k]) made' (k+1))
      case atStart=>exact ⟨0,made,mv,bs,rfl,rfl,⟨[],by simp⟩,HPRE.out,ST.out⟩
      case round =>
       clear cp cm
       obtain ⟨j,made',mv',bs',hgj,rfl,hr,hpre,hst⟩:=hrel
       have HGJ:=Kh hgj;have ST':=Kh hst;have HR:=Kh hr;have HPRE':=Kh hpre
       clear hgj hst hr hpre
       by_cases hj:j < p+1
       ·have cj:=HPRE'.out.nat j (by rw [HPL.out];exact hj)
        obtain ⟨y,hy⟩:∃ y,y=(made.take (p+1)).getD j 0:=⟨_,rfl⟩
        have hym:y∈made:=by rw [hy];exact List.mem_of_mem_take (getD_mem (by rw [HPL.out];exact hj))
        have hyl:=ST.out.sp.lt y hym
        rw [← hy] at cj
        have hj':(j:Int) < (p:Int)+1:=by omega
        have hxl':(x:Int) < t.length:=by omega
        have hyl':(y:Int) < t.length:=by omega
        have HQ1:=HQ.out.kept ST'.out.sp.fr (by simp)
        have cx:=HQ1.hd x hxl
        have cxy:=HQ1.el x y hxl hyl
        have hxy:=uD HS.out hxl hyl
        have hyx:=uD HS.out hyl hxl
        have HYM:=Kh hym
        clear HQ1 hy hym
        go_wp2_with fail
        refine (iJ w _ w1.heap.size w.heap.size (w.heap.size+1) t.length (entN t x y) mv' bs' made' hxy hle ST'.out.sp).mono ?_
        rintro e w4 ⟨rfl,bs4,mv4,hsp4,hkeep4⟩
        have hin:∀ z∈made,z∈made':=by
         obtain ⟨r,hr⟩:=HR.out
         intro z hz;rw [hr];exact List.mem_append_left _ hz
        have hst4:=Kh (ST'.out.add (hin x HXM.out) (hin y HYM.out) hsp4 hkeep4)
        have hr4:Hid (∃ r,addTo made' (entN t x y)=made ++ r):=by
         obtain ⟨r,hr⟩:=HR.out
         obtain ⟨r2,hr2⟩:=oP made' (entN t x y)
         exact ⟨r ++ r2,by rw [hr2,hr,List.append_assoc]⟩
        have hpr4:Hid (Arr w4 kb 3 (nats (made.take (p+1)))):=by
         obtain ⟨r,hr⟩:=hr4.out
         exact hkeep4.pre ST'.out.sp hsp4 ⟨made.drop (p+1) ++ r,by rw [hr,← List.append_assoc,List.take_append_drop]⟩ HPRE'.out
        have HQ2:=HQ.out.kept hsp4.fr (by simp)
        have cy:=HQ2.hd y hyl
        have cyx:=HQ2.el y x hyl hxl
        clear HQ2 hsp4 hkeep4 cx cxy cj hin
        go_wp2_with fail
        refine (iJ w _ w1.heap.size w.heap.size (w.heap.size+1) t.length (entN t y x) mv4 bs4 _ hyx hle hst4.out.sp).mono ?_
        rintro e w5 ⟨rfl,bs5,mv5,hsp5,hkeep5⟩
        have hin:∀ z∈made,z∈addTo made' (entN t x y):=by
         obtain ⟨r,hr⟩:=hr4.out
         intro z hz;rw [hr];exact List.mem_append_left _ hz
        have hst5:=Kh (hst4.out.add (hin y HYM.out) (hin x HXM.out) hsp5 hkeep5)
        have hr5:Hid (∃ r,addTo (addTo made' (entN t x y)) (entN t y x)=made ++ r):=by
         obtain ⟨r,hr⟩:=hr4.out
         obtain ⟨r2,hr2⟩:=oP (addTo made' (entN t x y)) (entN t y x)
         exact ⟨r ++ r2,by rw [hr2,hr,List.append_assoc]⟩
        have hpr5:Hid (Arr w5 kb 3 (nats (made.take (p+1)))):=by
         obtain ⟨r,hr⟩:=hr5.out
         exact hkeep5.pre hst4.out.sp hsp5 ⟨made.drop (p+1) ++ r,by rw [hr,← List.append_assoc,List.take_append_drop]⟩ hpr4.out
        clear hsp5 hkeep5 cy cyx hin
        go_wp2
        go_roundg (p+1 - (j+1))
        case measure=>have:=HGJ.out;omega
        case rel=>exact ⟨j+1,_,_,_,by omega,by go_num,hr5.out,hpr5.out,hst5.out⟩
       ·have hlen:p+1≤made'.length:=by
         obtain ⟨r,hr⟩:=HR.out
         rw [hr,List.length_append];omega
        have hm2:=ST'.out.sp.made_le
        go_wp2
        go_roundg (t.length - (p+1))
        case measure=>have:=HGP.out;omega
        case rel=>exact ⟨p+1,made',mv',bs',by omega,by go_num,hlen,ST'.out⟩
     ·go_wp2
      go_roundg (t.length - (k+1))
      case measure=>have:=HG.out;omega
      case rel=>exact ⟨k+1,p,sa1,sc1,gs ++ [k],made,mv,bs,by omega,by rw [HGL.out],rfl,by go_num,hp,by have:=ST.out;rw [← HGL.out] at this;exact this⟩
   ·rw [hbk] at ck
    have hkm:k∈made:=(ST.out.sp.mem k hk).1 hbk
    have HKM:=Kh hkm
    clear hbk hkm
    go_wp2
    go_roundg (t.length - (k+1))
    case measure=>have:=HG.out;omega
    case rel=>exact ⟨k+1,p,sa,sc,gs,made,mv,bs,by omega,rfl,rfl,by go_num,hp,ST.out.sp,ST.out.own,ST.out.ap,ST.out.inv.next HKM.out⟩
  ·go_wp2
   go_ret
   have hk2:k=t.length:=by have:=HG.out;omega
   exact ⟨sa,sc,gs,rfl,Row.of_owns ST.out.own,ST.out.inv.lt,fun x hx=>ST.out.inv.gen x (ST.out.inv.all x (by omega)),ST.out.sp.fr⟩
theorem pV (B:Nat) (w:World) (v:Value) (t:List (List Int)) (hB:B≤w.heap.size) (h:Mat B w v t) :
  Calls Tryd.prog 51 #[v] w fun e w'=>e=.returned (.int .i64 (xK t))∧w.grownBy w' none:=by
 by_cases hE:uF t=0
 ·have hs:=jB hE
  have HS:=Kh hs;have HE:=Kh hE;have H:=Kh h
  clear hs hE h
  go_enter Tryd.func51,Tryd.ntmps51
  go_wp2_with fail
  refine (shape_any B w v t H.out).mono ?_
  rintro e w' ⟨rfl,rfl⟩
  rw [HE.out]
  go_wp2_with fail
  refine (spanning_any B w v t hB H.out HS.out).mono ?_
  rintro e w1 ⟨sa,sc,gs,rfl,hrow,hgl,hgen,hg1⟩
  have HR:=Kh hrow;have HGL:=Kh hgl;have HGEN:=Kh hgen
  have HM:=Kh ((H.out.kept hg1 (by simp)).mono (show B≤w1.heap.size by have:=hg1.size;omega))
  clear hrow hgl hgen
  go_wp2_with fail
  refine (associates_any w1.heap.size w1 v _ t gs (Nat.le_refl _) HM.out HS.out HR.out HGL.out).mono ?_
  rintro e w2 ⟨rfl,hg2⟩
  have hg:=zG hg1 hg2
  cases hb:kK t gs
  ·have hv:xK t=5:=mP HE.out (fun ha=>by
    rw [lightB_true (fun g hg=>ha g (HGL.out g hg))] at hb;cases hb)
   have HV:=Kh hv
   clear hb hv
   go_wp2
   go_ret
   exact ⟨yD HV.out.symm,hg⟩
  ·have hv:xK t=0:=sO HE.out (assoc_of_light HS.out HGEN.out (fun g hg=>⟨HGL.out g hg,by
    have:lZ t gs:=by simpa [kK] using hb
    exact this g hg⟩))
   have HV:=Kh hv
   clear hb hv
   go_wp2
   go_ret
   exact ⟨yD HV.out.symm,hg⟩
 ·have hb:(uF t != 0)=true:=by rw [bne_iff_ne];exact hE
  have HE:=Kh hE;clear hE
  go_enter Tryd.func51,Tryd.ntmps51
  go_wp2_with fail
  refine (shape_any B w v t h).mono ?_
  rintro e w' ⟨rfl,rfl⟩
  go_wp2
  go_ret
  exact ⟨yD (pW HE.out).symm,zX _ _⟩
theorem valid_any (B:Nat) (w:World) (v:Value) (t:List (List Int)) (hB:B≤w.heap.size) (h:Mat B w v t) :
  Calls Tryd.prog 96 #[v] w fun e w'=>e=.returned (.bool (xK t == 0))∧w.grownBy w' none:=by
 go_enter Tryd.func96,Tryd.ntmps96
 go_wp2_with fail
 refine (pV B w v t hB h).mono ?_
 rintro e w1 ⟨rfl,hg⟩
 go_wp2
 go_ret
 exact ⟨rfl,hg⟩
theorem range_step (n k:Nat) (hk:k < n):(List.range k ++ List.replicate (n - k) 0).set k k=List.range (k+1) ++ List.replicate (n - (k+1)) 0:=by
 rw [List.set_append_right _ _ (by simp),List.length_range,Nat.sub_self,List.range_succ,List.append_assoc]
 congr 1
 rw [show n - k=n - (k+1)+1 by omega,List.replicate_succ,List.set_cons_zero]
 rfl
set_option maxHeartbeats 400000 in
theorem elements_any (w:World) (a:Option Addr) (n cap:Nat) (hn:n≤400) :
  Calls Tryd.prog 98 #[.slice a n cap] w fun e w'=>e=.returned (.slice (some ⟨w.heap.size,0,none⟩) n n)∧Arr w' w.heap.size 3 (nats (List.range n))∧w.grownBy w' none:=by
 go_enter Tryd.func98,Tryd.ntmps98
 go_wp2_with (at_make;refine make1 rfl _ _ _ rfl yG rfl _ _ _ _ n rfl rfl rfl rfl ?b1 ?b2 ?_;(case b1=>omega);(case b2=>(unfold maxLen;omega));intro w1 ha1 hg1 hz1)
 rw [← xX] at ha1
 have HA:=Kh ha1;clear ha1
 go_loopg [10] n (fun g i wr=>∃ k:Nat,g+k=n∧i=.int .i64 k∧Arr wr w.heap.size 3 (nats (List.range k ++ List.replicate (n - k) 0))∧w.grownBy wr none)
 case atStart=>exact ⟨0,rfl,rfl,by simpa using HA.out,hg1⟩
 case round =>
  clear HA hg1 hz1
  obtain ⟨k,hg,rfl,harr,hgr⟩:=hrel
  have HG:=Kh hg;clear hg
  by_cases hk:k < n
  ·have hk':(k:Int) < n:=by omega
   have hlen:(List.range k ++ List.replicate (n - k) 0).length=n:=by simp;omega
   have ck:=harr.nat k (by rw [hlen];exact hk)
   have fk:=harr.frozen k
   have hst:=harr.nat_set k (by rw [hlen];exact hk) k
   rw [range_step n k hk] at hst
   have HST:=Kh hst
   clear hst hlen harr
   go_wp2
   go_roundg (n - (k+1))
   case measure=>have:=HG.out;omega
   case rel=>exact ⟨k+1,by omega,by go_num,HST.out,zF hgr (zH _ _ _) (by simp)⟩
  ·have hk2:k=n:=by have:=HG.out;omega
   have HK2:=Kh hk2
   have HARR:=Kh harr
   clear harr hk2
   go_wp2
   go_ret
   refine ⟨rfl,?_,hgr⟩
   have:=HARR.out
   rw [HK2.out,Nat.sub_self,List.replicate_zero,List.append_nil] at this
   exact this
theorem isId_bad {t:List (List Int)} {e x:Nat} (hx:x < t.length) (h:idAt t e x=false):isId t e=false:=by
 rw [← Bool.not_eq_true,isId,List.all_eq_true]
 intro ha
 rw [ha x (List.mem_range.2 hx)] at h;cases h
def IdTo (t:List (List Int)) (e k:Nat):Prop:=∀ x,x < k→idAt t e x=true
theorem isId_good {t:List (List Int)} {e:Nat} (h:IdTo t e t.length):isId t e=true:=by
 rw [isId,List.all_eq_true];intro x hx;exact h x (List.mem_range.1 hx)
set_option maxRecDepth 100000 in
set_option maxHeartbeats 800000 in
theorem isid_any (B:Nat) (w:World) (pb b off cap:Nat) (RB RO RC:Nat→Nat) (t:List (List Int)) (e:Nat) (hq:Sq B w t b off RB RO RC) (hmx:cap≤9223372036854775807) (hc:t.length≤cap) (he:e < t.length)
  (hp:w.cell? ⟨pb,0,none⟩=some (.slice (some ⟨b,off,none⟩) t.length cap)) :
  Calls Tryd.prog 99 #[.int .i64 (e:Int),.pointer (some ⟨pb,0,none⟩)] w fun r w'=>r=.returned (.bool (isId t e))∧∃ m,w'=w.drewN m:=by
 have HQ:=Kh hq;clear hq
 have he':(e:Int) < t.length:=by omega
 have ce:=HQ.out.hd e he
 go_enter Tryd.func99,Tryd.ntmps99
 go_wp2
 go_loopg [7] t.length (fun g i wr=>∃ k m:Nat,g+k=t.length∧i=.int .i64 k∧IdTo t e k∧wr=w.drewN m)
 case atStart=>exact ⟨0,0,rfl,rfl,fun x hx=>absurd hx (by omega),rfl⟩
 case round =>
  obtain ⟨x,m,hg,rfl,hok,rfl⟩:=hrel
  have HG:=Kh hg;have OK:=Kh hok;clear hg hok
  by_cases hx:x < t.length
  ·have hx':(x:Int) < t.length:=by omega
   have cx:=HQ.out.hd x hx
   have cex:=HQ.out.el e x he hx
   have cxe:=HQ.out.el x e hx he
   obtain ⟨p,hp1⟩:∃ p,p=entN t e x:=⟨_,rfl⟩
   obtain ⟨q,hq1⟩:∃ q,q=entN t x e:=⟨_,rfl⟩
   rw [← hp1] at cex
   rw [← hq1] at cxe
   have HI:Hid (idAt t e x=(p == x && q == x)):=by rw [hp1,hq1];exact Kh rfl
   clear hp1 hq1
   by_cases h1:p=x
   ·have e1:((p:Int) != (x:Int))=false:=by rw [h1];simp
    by_cases h2:q=x
    ·have e2:((q:Int) != (x:Int))=false:=by rw [h2];simp
     have H1:=Kh h1;have H2:=Kh h2;clear h1 h2
     go_wp2
     first|(go_quiet (fail);go_wp2)|skip
     go_roundg (t.length - (x+1))
     case measure=>have:=HG.out;omega
     case rel =>
      refine ⟨x+1,_,by omega,by go_num,fun y hy=>?_,rfl⟩
      rcases Nat.lt_succ_iff_lt_or_eq.1 hy with hy|rfl
      ·exact OK.out y hy
      ·rw [HI.out,H1.out,H2.out];simp
    ·have e2:((q:Int) != (x:Int))=true:=by rw [bne_iff_ne];omega
     have H1:=Kh h1;have H2:=Kh h2;clear h1 h2
     go_wp2
     first|(go_quiet (fail);go_wp2)|skip
     go_ret
     exact ⟨zT (isId_bad hx (by rw [HI.out];simp [H2.out])).symm,_,rfl⟩
   ·have e1:((p:Int) != (x:Int))=true:=by rw [bne_iff_ne];omega
    have H1:=Kh h1;clear h1
    go_wp2
    first|(go_quiet (fail);go_wp2)|skip
    go_ret
    exact ⟨zT (isId_bad hx (by rw [HI.out];simp [H1.out])).symm,_,rfl⟩
  ·have hk2:x=t.length:=by have:=HG.out;omega
   have HK2:=Kh hk2;clear hk2
   go_wp2
   go_ret
   exact ⟨zT (isId_good (by rw [← HK2.out];exact OK.out)).symm,_,rfl⟩
set_option maxRecDepth 100000 in
theorem indexFunc_any (B:Nat) (w:World) (pb g b off cap:Nat) (RB RO RC:Nat→Nat) (t:List (List Int)) (hq:Sq B w t b off RB RO RC) (hmx:cap≤9223372036854775807) (hc:t.length≤cap) (hp:w.cell? ⟨pb,0,none⟩=some (.slice (some ⟨b,off,none⟩) t.length cap))
  (ha:Arr w g 3 (nats (List.range t.length))) :
  Calls Tryd.prog 97 #[.slice (some ⟨g,0,none⟩) t.length t.length,.func (.func 99) #[] #[.pointer (some ⟨pb,0,none⟩)]] w fun e w'=>e=.returned (.int .i64 (wK t))∧∃ m,w'=w.drewN m:=by
 have HQ:=Kh hq;have HA:=Kh ha;clear hq ha
 go_enter Tryd.func97,Tryd.ntmps97
 go_wp2
 go_loopg [8] t.length (fun g i wr=>∃ k m:Nat,g+k=t.length∧i=.int .i64 k∧NoId t k∧wr=w.drewN m)
 case atStart=>exact ⟨0,0,rfl,rfl,fun x hx=>absurd hx (by omega),rfl⟩
 case round =>
  obtain ⟨x,m,hg,rfl,hok,rfl⟩:=hrel
  have HG:=Kh hg;have OK:=Kh hok;clear hg hok
  by_cases hx:x < t.length
  ·have hx':(x:Int) < t.length:=by omega
   have cx:=HA.out.nat x (by simpa using hx)
   rw [show (List.range t.length).getD x 0=x by simp [List.getD,hx]] at cx
   go_wp2_with fail
   refine (isid_any B (w.drewN m) pb b off cap RB RO RC t x (HQ.out.kept (zJ _ _ none) (by simp)) hmx hc hx hp).mono ?_
   rintro e w2 ⟨rfl,m2,rfl⟩
   cases hI:isId t x
   ·have HI:=Kh hI;clear hI
    go_wp2
    go_roundg (t.length - (x+1))
    case measure=>have:=HG.out;omega
    case rel =>
     refine ⟨x+1,m+m2,by omega,by go_num,fun y hy=>?_,rfl⟩
     rcases Nat.lt_succ_iff_lt_or_eq.1 hy with hy|rfl
     ·exact OK.out y hy
     ·exact HI.out
   ·have HI:=Kh hI;clear hI
    go_wp2
    go_ret
    exact ⟨yD (nY hx HI.out OK.out).symm,m+m2,rfl⟩
  ·go_wp2
   go_ret
   exact ⟨yD (identI_none (fun x' hx'=>OK.out x' (by omega))).symm,m,rfl⟩
noncomputable def jU (t:List (List Int)):Int:=if xK t=0 then wK t else -1
theorem qP {t:List (List Int)} (h:xK t=0):jU t=wK t:=by rw [jU,if_pos h]
theorem identE_not {t:List (List Int)} (h:¬ xK t=0):jU t = -1:=by rw [jU,if_neg h]
set_option maxRecDepth 100000 in
theorem oK (B:Nat) (w:World) (v:Value) (t:List (List Int)) (hB:B≤w.heap.size) (h:Mat B w v t) :
  Calls Tryd.prog 71 #[v] w fun e w'=>e=.returned (.int .i64 (jU t))∧w.grownBy w' none:=by
 have g0:=Ga w (.cells #[v] 26) none
 have h0:=h.kept g0 (by simp)
 have hbox:=heap_alloc_new w (.cells #[v] 26)
 have HB:=Kh hbox;have H0:=Kh h0
 clear hbox h0
 have hB0:B≤(w.alloc (.cells #[v] 26)).heap.size:=by rw [zO];omega
 by_cases hv:xK t=0
 ·have hb:(xK t == 0)=true:=by simp [hv]
  have HV:=Kh hv;clear hv
  obtain ⟨b,off,cap,RB,RO,RC,rfl,hc1,hc2,hq⟩:=h.sq (uE HV.out).1
  have hmx:cap≤9223372036854775807:=by unfold maxLen at hc2;omega
  have hpos:=(uE HV.out).1.pos
  have hle:=(uE HV.out).1.le
  have HQ:=Kh hq;clear hq h hc2
  go_enter Tryd.func71,Tryd.ntmps71
  go_wp2_with fail
  refine (valid_any B _ _ t hB0 H0.out).mono ?_
  rintro e w1 ⟨rfl,hg1⟩
  have c1:=zI (zE HB.out hg1 (by simp)) 0 (by simp)
  simp only [List.getElem_toArray,List.getElem_cons_zero] at c1
  have gw1:=zG g0 hg1
  go_wp2_with fail
  refine (elements_any w1 _ _ _ hle).mono ?_
  rintro e w2 ⟨rfl,ha2,hg2⟩
  have c2:=zI (zE (zE HB.out hg1 (by simp)) hg2 (by simp)) 0 (by simp)
  simp only [List.getElem_toArray,List.getElem_cons_zero] at c2
  have gw2:=zG gw1 hg2
  have HQ2:=Kh (HQ.out.kept gw2 (by simp))
  have HA2:=Kh ha2
  clear ha2 hg1 hg2 c1
  go_wp2_with fail
  refine (indexFunc_any B w2 w.heap.size w1.heap.size b off cap RB RO RC t HQ2.out hmx hc1 c2 HA2.out).mono ?_
  rintro e w3 ⟨rfl,m,rfl⟩
  go_wp2
  go_ret
  exact ⟨yD (qP HV.out).symm,zG gw2 (zJ _ _ _)⟩
 ·have hb:(xK t == 0)=false:=by rw [beq_eq_false_iff_ne];exact hv
  have HV:=Kh hv;clear hv
  obtain ⟨sa,sc,rfl⟩:=h.shape
  clear h
  go_enter Tryd.func71,Tryd.ntmps71
  go_wp2_with fail
  refine (valid_any B _ _ t hB0 H0.out).mono ?_
  rintro e w1 ⟨rfl,hg1⟩
  go_wp2
  go_ret
  exact ⟨yD (identE_not HV.out).symm,zG g0 hg1⟩
noncomputable def mayB (t:List (List Int)) (zs:List Int):Bool:=(xK t == 0) && decide (t.length≤12) && zs.all (setB t.length)
noncomputable def kH (t:List (List Int)) (a:Int):Int:=if mayB t [a]=true then (yC t.length (entN t) a.toNat:Nat) else 0
theorem lS {t:List (List Int)} {a:Int}:mayB t [a]=true ↔ xK t=0∧t.length≤12∧setB t.length a=true:=by
 simp [mayB,and_assoc]
theorem setB_true {n:Nat} {s:Int} (h:setB n s=true):∃ a:Nat,s=a∧a < 2 ^ n:=by
 simp only [setB,decide_eq_true_eq] at h
 exact ⟨s.toNat,by omega,by omega⟩
theorem kG {t:List (List Int)} {a:Int} (h:¬ mayB t [a]=true):kH t a=0:=by rw [kH,if_neg h]
theorem omegaP_yes {t:List (List Int)} {a:Nat} (h:mayB t [(a:Int)]=true):kH t a=(yC t.length (entN t) a:Nat):=by rw [kH,if_pos h];rfl
theorem rH (w:World) (a:Option Addr) (n cap:Nat) (s:Int) (hn:n≤12) :
  Calls Tryd.prog 52 #[.slice a n cap,.int .i64 s] w fun e w'=>e=.returned (.bool (setB n s))∧w=w':=validSet_any w a n cap s hn
set_option maxHeartbeats 400000 in
theorem pomega_any (B:Nat) (w:World) (v:Value) (t:List (List Int)) (a:Int) (hB:B≤w.heap.size) (h:Mat B w v t) (hT:TabOk w) :
  Calls Tryd.prog 22 #[v,.int .i64 a] w fun e w'=>e=.returned (.int .i64 (kH t a))∧w.grownBy w' none:=by
 have hlm:=h.len_le
 unfold maxLen at hlm
 have H:=Kh h
 have hv:=pV B w v t hB h
 have HV:=Kh hv
 obtain ⟨sa,sc,rfl⟩:=h.shape
 clear h hv
 by_cases h1:xK t=0
 ·rw [h1] at HV
  have H1:=Kh h1;clear h1
  by_cases h2:t.length≤12
  ·cases h3:setB t.length a
   ·have HN:=Kh (kG (t:=t) (a:=a) (fun hm=>by have:=(lS.1 hm).2.2;rw [h3] at this;cases this))
    have H3:=Kh h3;clear h3
    go_enter Tryd.func22,Tryd.ntmps22
    go_wp2_with fail
    refine HV.out.mono ?_
    rintro e w1 ⟨rfl,hg1⟩
    go_wp2_with fail
    refine (rH w1 sa t.length sc a h2).mono ?_
    rintro e w2 ⟨rfl,rfl⟩
    rw [H3.out]
    go_wp2
    go_ret
    exact ⟨yD HN.out.symm,hg1⟩
   ·have hm:mayB t [a]=true:=lS.2 ⟨H1.out,h2,h3⟩
    obtain ⟨a',rfl,ha⟩:=setB_true h3
    have HY:=Kh (omegaP_yes hm)
    have H3:=Kh h3;clear h3 hm
    go_enter Tryd.func22,Tryd.ntmps22
    go_wp2_with fail
    refine HV.out.mono ?_
    rintro e w1 ⟨rfl,hg1⟩
    have HG1:=Kh hg1
    clear hg1
    go_wp2_with fail
    refine (rH w1 sa t.length sc a' h2).mono ?_
    rintro e w2 ⟨rfl,rfl⟩
    rw [H3.out]
    go_wp2_with fail
    refine (tY B w1 _ t (by have:=HG1.out.size;omega) (H.out.kept HG1.out (by simp)) H1.out h2 (hT.kept HG1.out (by simp))).mono ?_
    rintro e w2 ⟨p,go,rfl,hs,hg2⟩
    have hT2:=hT.kept (zG HG1.out hg2) (by simp)
    have HS:=Kh hs;have HG2:=Kh hg2
    clear hs hg2
    go_wp2_with fail
    refine (oD _ _ w2 p go t.length (entN t) a' HS.out (tb_of H1.out) h2 ha hT2).mono ?_
    rintro e w3 ⟨rfl,hs3,hg3⟩
    have hlt:=HS.out.go_lt'
    go_wp2
    go_ret
    exact ⟨yD HY.out.symm,zF (zG HG1.out HG2.out) hg3 (fun q e=>by have:go=q:=Oj e;have:=HG1.out.size;omega)⟩
  ·have HN:=Kh (kG (t:=t) (a:=a) (fun hm=>h2 (lS.1 hm).2.1))
   go_enter Tryd.func22,Tryd.ntmps22
   go_wp2_with fail
   refine HV.out.mono ?_
   rintro e w1 ⟨rfl,hg1⟩
   go_wp2
   go_ret
   exact ⟨yD HN.out.symm,hg1⟩
 ·have hb:(xK t != 0)=true:=by rw [bne_iff_ne];exact h1
  have HN:=Kh (kG (t:=t) (a:=a) (fun hm=>h1 (lS.1 hm).1))
  clear h1
  go_enter Tryd.func22,Tryd.ntmps22
  go_wp2_with fail
  refine HV.out.mono ?_
  rintro e w1 ⟨rfl,hg1⟩
  go_wp2
  go_ret
  exact ⟨yD HN.out.symm,hg1⟩
theorem row_lit (w:World) (zs:List Int) (cs:Array Value) (hcs:cs.toList=ints zs) (n:Nat) (hn:zs.length=n) (hm:n≤maxLen):Row (w.heap.size+1) (w.alloc (.cells cs 3)) (.slice (some ⟨w.heap.size,0,none⟩) n n) (ints zs):=by
 have ha:=Arr.new w 3 cs
 rw [hcs] at ha
 exact .inr ⟨w.heap.size,0,n,by rw [zM,hn],by omega,by rw [zM];omega,hm,ha.row⟩
end Go.Proofs.YtdjhoadoiknaoaaDoor
