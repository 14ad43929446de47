/- Part 9 of the proof: Light, Span. -/
import Derived.Test.YtdjhoadoiknaoaaDoorZC8
set_option linter.unusedVariables false
set_option linter.unusedSimpArgs false
namespace Go.Proofs.YtdjhoadoiknaoaaDoor
open Go.RowKit
def lZ (t:List (List Int)) (gs:List Nat):Prop:=∀ g∈gs,pO t g
open Classical in
noncomputable def kK (t:List (List Int)) (gs:List Nat):Bool:=decide (lZ t gs)
theorem lightB_true {t:List (List Int)} {gs:List Nat} (h:lZ t gs):kK t gs=true:=by simp [kK,h]
theorem lightB_false {t:List (List Int)} {gs:List Nat} {k:Nat} (hk:k < gs.length) (h:¬ pO t (gs.getD k 0)):kK t gs=false:=by
 simp only [kK,decide_eq_false_iff_not]
 intro ha
 refine h (ha _ ?_)
 simp only [List.getD,List.getElem?_eq_getElem hk]
 exact List.getElem_mem hk
def TriedOk (t:List (List Int)) (bs:List Bool):Prop:=∀ x,bs.getD x false=true→pO t x
def GensOk (t:List (List Int)) (gs:List Nat) (k:Nat):Prop:=∀ i,i < k→pO t (gs.getD i 0)
def LRows (t:List (List Int)) (g k:Nat):Prop:=∀ x,x < k→∀ y,y < t.length→assAt t x g y
def LCols (t:List (List Int)) (x g k:Nat):Prop:=∀ y,y < k→assAt t x g y
theorem gens_all {t:List (List Int)} {gs:List Nat} (h:GensOk t gs gs.length):lZ t gs:=by
 intro g hg
 obtain ⟨i,hi,rfl⟩:=List.getElem_of_mem hg
 have:=h i hi
 simpa [List.getD,List.getElem?_eq_getElem hi] using this
set_option maxRecDepth 100000 in
set_option maxHeartbeats 1000000 in
theorem associates_any (B:Nat) (w:World) (v gv:Value) (t:List (List Int)) (gs:List Nat) (hB:B≤w.heap.size) (h:Mat B w v t) (hs:Shape t) (hg:Row B w gv (nats gs)) (hgl:∀ g∈gs,g < t.length) :
  Calls Tryd.prog 93 #[v,gv] w fun e w'=>e=.returned (.bool (kK t gs))∧w.grownBy w' none:=by
 obtain ⟨b,off,cap,RB,RO,RC,rfl,hc1,hc2,hq⟩:=h.sq hs
 have hmx:cap≤9223372036854775807:=by unfold maxLen at hc2;omega
 have hgm:=hg.len_le
 rw [zN] at hgm
 unfold maxLen at hgm
 obtain ⟨ga,gc,rfl⟩:=hg.shape
 rw [zN]
 have hpos:=hs.pos
 have hle:=hs.le
 have HQ:=Kh hq;have HS:=Kh hs;have HGR:=Kh hg;have HGL:=Kh hgl
 clear hq hs h hg hgl
 go_enter Tryd.func93,Tryd.ntmps93
 go_wp2_with (at_make;refine make1 rfl _ _ _ rfl wD rfl _ _ _ _ t.length rfl rfl rfl rfl ?b1 ?b2 ?_;(case b1=>omega);(case b2=>(unfold maxLen;omega));intro w1 ha1 hg1 hz1)
 rw [← wU] at ha1
 have HA1:=Kh ha1;clear ha1
 go_loopg [18] gs.length (fun g i wr=>∃ (k:Nat) (bs:List Bool),g+k=gs.length∧i=.int .i64 k∧bs.length=t.length∧Arr wr w.heap.size 4 (bls bs)∧w.grownBy wr none∧TriedOk t bs∧GensOk t gs k)
 case atStart =>
  refine ⟨0,_,rfl,rfl,by simp,HA1.out,hg1,fun x hx=>?_,fun i hi=>absurd hi (by omega)⟩
  exfalso
  simp [List.getD,List.getElem?_replicate] at hx
  split at hx <;> simp at hx
 case round =>
  clear HA1 hg1 hz1
  obtain ⟨k,bs,hgk,rfl,hbl,harr,hgr,htr,hgo⟩:=hrel
  have HGK:=Kh hgk;have HBL:=Kh hbl;have HARR:=Kh harr;have HTR:=Kh htr;have HGO:=Kh hgo
  have hszr:=harr.lt
  clear hgk hbl harr htr hgo
  by_cases hk:k < gs.length
  ·have hk':(k:Int) < gs.length:=by omega
   obtain ⟨gb,go,gcap,e,_,_,_,hra⟩:=HGR.out.some_ (by rw [zN];omega)
   simp only [Value.slice.injEq] at e
   obtain ⟨rfl,-,-⟩:=e
   have HGW:=HGR.out.kept hgr (by simp)
   obtain ⟨gb',go',gcap',e,_,_,_,hra⟩:=HGW.some_ (by rw [zN];omega)
   simp only [Value.slice.injEq,Option.some.injEq,Addr.mk.injEq,and_true] at e
   obtain ⟨⟨rfl,rfl⟩,-,-⟩:=e
   have hgc:=hra.nat k hk
   have hxl:=jM HGL.out hk
   obtain ⟨x,hx⟩:∃ x,x=gs.getD k 0:=⟨_,rfl⟩
   rw [← hx] at hgc hxl
   have hxl':(x:Int) < t.length:=by omega
   have hbx:=HARR.out.bool x (by rw [HBL.out];exact hxl)
   have hfx:=HARR.out.frozen x
   have HX:=Kh hx
   clear hra hx HGW
   cases hbv:bs.getD x false
   ·rw [hbv] at hbx
    have hset:=HARR.out.bool_set x (by rw [HBL.out];exact hxl) true
    have hgs1:=zH wr ⟨w.heap.size,x,none⟩ (.bool true)
    have HBV:=Kh hbv;clear hbv
    go_wp2
    generalize hW:wr.setCell ⟨w.heap.size,x,none⟩ (.bool true)=w2 at hset hgs1
    have hgw2:w.grownBy w2 none:=zF hgr hgs1 (by simp)
    have HQ2:=Kh (HQ.out.kept hgw2 (by simp))
    have HSET:=Kh hset
    have HW:=Kh hW
    clear hset hgs1 hW hbx hfx hgc
    have hxc:=HQ2.out.hd x hxl
    go_loopg [31] t.length (fun g i wr=>∃ k m:Nat,g+k=t.length∧i=.int .i64 k∧LRows t x k∧wr=w2.drewN m)
    case atStart=>exact ⟨0,0,rfl,rfl,fun x hx=>absurd hx (by omega),rfl⟩
    case round =>
     obtain ⟨a,m,hga,rfl,hok,rfl⟩:=hrel
     have HGA:=Kh hga;have HOK:=Kh hok;clear hga hok
     by_cases ha:a < t.length
     ·have ha':(a:Int) < t.length:=by omega
      have hac:=HQ2.out.hd a ha
      have hax:=HQ2.out.el a x ha hxl
      obtain ⟨p,hp⟩:∃ p,p=entN t a x:=⟨_,rfl⟩
      have hpl:p < t.length:=by rw [hp];exact uD HS.out ha hxl
      have hpl':(p:Int) < t.length:=by omega
      rw [← hp] at hax
      have hpc:=HQ2.out.hd p hpl
      have HP:=Kh hp;clear hp
      go_wp2
      go_loopg [47] t.length (fun g i wr=>∃ k m:Nat,g+k=t.length∧i=.int .i64 k∧LCols t a x k∧wr=w2.drewN m)
      case atStart=>exact ⟨0,m,rfl,rfl,fun x hx=>absurd hx (by omega),rfl⟩
      case round =>
       obtain ⟨y,m,hgy,rfl,hok,rfl⟩:=hrel
       have HGY:=Kh hgy;have HOY:=Kh hok;clear hgy hok
       by_cases hy:y < t.length
       ·have hy':(y:Int) < t.length:=by omega
        have hxy:=HQ2.out.el x y hxl hy
        have hpy:=HQ2.out.el p y hpl hy
        obtain ⟨q,hq⟩:∃ q,q=entN t x y:=⟨_,rfl⟩
        have hql:q < t.length:=by rw [hq];exact uD HS.out hxl hy
        have hql':(q:Int) < t.length:=by omega
        rw [← hq] at hxy
        have haq:=HQ2.out.el a q ha hql
        obtain ⟨r,hr⟩:∃ r,r=entN t p y:=⟨_,rfl⟩
        obtain ⟨s,hs⟩:∃ s,s=entN t a q:=⟨_,rfl⟩
        rw [← hr] at hpy
        rw [← hs] at haq
        have hass:assAt t a x y ↔ r=s:=by rw [assAt,← HP.out,← hq,← hr,← hs]
        have HA:=Kh hass
        clear hq hr hs hass
        by_cases hrs:r=s
        ·subst hrs
         have ht:((r:Int) != (r:Int))=false:=by simp
         go_wp2
         go_quiet (fail)
         go_wp2
         go_roundg (t.length - (y+1))
         case measure=>have:=HGY.out;omega
         case rel =>
          refine ⟨y+1,_,by omega,by go_num,fun z' hz'=>?_,rfl⟩
          rcases Nat.lt_succ_iff_lt_or_eq.1 hz' with hz'|rfl
          ·exact HOY.out z' hz'
          ·exact HA.out.2 (by simp)
        ·have ht:((r:Int) != (s:Int))=true:=by rw [bne_iff_ne];omega
         have HRS:=Kh hrs;clear hrs
         go_wp2
         go_quiet (fail)
         go_wp2
         go_ret
         refine ⟨zT (lightB_false hk (fun hl=>HRS.out (HA.out.1 ?_))).symm,xJ hgw2 rfl rfl rfl rfl⟩
         rw [← HX.out] at hl
         exact hl a y ha hy
       ·go_wp2
        go_roundg (t.length - (a+1))
        case measure=>have:=HGA.out;omega
        case rel =>
         refine ⟨a+1,m,by omega,by go_num,fun y' hy'=>?_,rfl⟩
         rcases Nat.lt_succ_iff_lt_or_eq.1 hy' with hy'|rfl
         ·exact HOK.out y' hy'
         ·exact fun z' hz'=>HOY.out z' (by omega)
     ·have hlight:Hid (pO t x):=Kh (fun a' y' ha' hy'=>HOK.out a' (by omega) y' hy')
      go_wp2
      go_roundg (gs.length - (k+1))
      case measure=>have:=HGK.out;omega
      case rel =>
       refine ⟨k+1,bs.set x true,by omega,by go_num,by rw [List.length_set];exact HBL.out,HSET.out.of_heap rfl,xJ hgw2 rfl rfl rfl rfl,fun y hy=>?_,fun i hi=>?_⟩
       ·by_cases e:x=y
        ·subst e;exact hlight.out
        ·rw [getD_set_ne _ _ _ _ _ e] at hy
         exact HTR.out y hy
       ·rcases Nat.lt_succ_iff_lt_or_eq.1 hi with hi|rfl
        ·exact HGO.out i hi
        ·rw [← HX.out];exact hlight.out
   ·rw [hbv] at hbx
    have HBV:=Kh hbv;clear hbv
    go_wp2
    go_roundg (gs.length - (k+1))
    case measure=>have:=HGK.out;omega
    case rel =>
     refine ⟨k+1,bs,by omega,by go_num,HBL.out,HARR.out,hgr,HTR.out,fun i hi=>?_⟩
     rcases Nat.lt_succ_iff_lt_or_eq.1 hi with hi|rfl
     ·exact HGO.out i hi
     ·rw [← HX.out];exact HTR.out x HBV.out
  ·go_wp2
   go_ret
   refine ⟨zT (lightB_true (gens_all ?_)).symm,hgr⟩
   have:k=gs.length:=by have:=HGK.out;omega
   rw [← this];exact HGO.out
structure Sp (w0 w:World) (bi bm g n:Nat) (mv:Value) (bs:List Bool) (made:List Nat):Prop where
 box1:w.heap[bi]?=some (.cells #[.slice (some ⟨g,0,none⟩) n n] 25 (0,0))
 box2:w.heap[bm]?=some (.cells #[mv] 22 (0,0))
 own:w.ownsRow w0.heap.size 3 1 mv made.length (nats made)
 shape:∃ sa sc,mv=.slice sa made.length sc
 arr:Arr w g 4 (bls bs)
 len:bs.length=n
 cnt:made.length=bs.count true
 mem:∀ x,x < n→(bs.getD x false=true ↔ x∈made)
 lt:∀ x∈made,x < n
 lo:w0.heap.size≤bi∧w0.heap.size≤bm∧w0.heap.size≤g
 fr:w0.grownBy w none
theorem Sp.made_le {w0 w:World} {bi bm g n:Nat} {mv:Value} {bs:List Bool} {made:List Nat} (h:Sp w0 w bi bm g n mv bs made):made.length≤n:=by
 rw [h.cnt,← h.len];exact List.count_le_length
structure Keep (w w':World) (bm g:Nat) (mv mv':Value):Prop where
 size:w.heap.size≤w'.heap.size
 k1:∀ k,k < w.heap.size→k≠g→k≠bm→mv.ownBlock≠some k→w'.heap[k]?=w.heap[k]?
 k2:mv'.ownBlock=mv.ownBlock∨((∀ k,k < w.heap.size→k≠g→k≠bm→w'.heap[k]?=w.heap[k]?)∧∀ k,mv'.ownBlock=some k→w.heap.size≤k)
def addTo (made:List Nat) (x:Nat):List Nat:=if x∈made then made else made ++ [x]
theorem pH {made:List Nat} {x y:Nat}:y∈addTo made x ↔ y∈made∨y=x:=by
 unfold addTo
 split
 ·constructor
  ·exact .inl
  ·rintro (h|rfl)
   ·exact h
   ·assumption
 ·simp
theorem oP (made:List Nat) (x:Nat):∃ r,addTo made x=made ++ r:=by
 unfold addTo
 split
 ·exact ⟨[],by simp⟩
 ·exact ⟨[x],rfl⟩
def Added (w0 w:World) (bi bm g n:Nat) (mv:Value) (made:List Nat) (x:Nat) (e:Ending) (w':World):Prop :=
 e=.returned (.tuple #[])∧∃ bs' mv',Sp w0 w' bi bm g n mv' bs' (addTo made x)∧Keep w w' bm g mv mv'
theorem count_set_true {bs:List Bool} {x:Nat} (hx:x < bs.length) (h:bs.getD x false=false):(bs.set x true).count true=bs.count true+1:=by
 rw [List.count_set hx]
 have:bs[x]=false:=by simpa [List.getD,List.getElem?_eq_getElem hx] using h
 simp [this]
theorem Sp.set {w0 w w3:World} {bi bm g n x:Nat} {mv:Value} {bs:List Bool} {made:List Nat} {sa:Option Addr} {sc:Nat} (h:Sp w0 w bi bm g n mv bs made) (hx:x < n) (hb:bs.getD x false=false)
  (h1:w3.heap[bi]?=some (.cells #[.slice (some ⟨g,0,none⟩) n n] 25 (0,0))) (h2:w3.heap[bm]?=some (.cells #[.slice sa (made.length+1) sc] 22 (0,0))) (h3:w3.ownsRow w0.heap.size 3 1 (.slice sa (made.length+1) sc) (made.length+1) (nats made ++ [.int .i64 (x:Int)]))
  (h4:Arr w3 g 4 (bls (bs.set x true))) (h5:w0.grownBy w3 none) (h6:Keep w w3 bm g mv (.slice sa (made.length+1) sc)):Added w0 w bi bm g n mv made x (.returned (.tuple #[])) w3:=by
 have hxm:¬ x∈made:=fun hm=>by rw [(h.mem x hx).2 hm] at hb;cases hb
 refine ⟨rfl,bs.set x true,_,⟨h1,h2,?_,?_,h4,by rw [List.length_set];exact h.len,?_,fun y hy=>?_,fun y hy=>?_,h.lo,h5⟩,h6⟩
 ·rw [addTo,if_neg hxm,List.length_append,uP];exact h3
 ·rw [addTo,if_neg hxm,List.length_append];exact ⟨_,_,rfl⟩
 ·rw [addTo,if_neg hxm,List.length_append,count_set_true (by rw [h.len];exact hx) hb,h.cnt];rfl
 ·rw [pH]
  by_cases e:x=y
  ·subst e
   rw [xO _ _ _ _ (by rw [h.len];exact hx)];simp
  ·rw [getD_set_ne _ _ _ _ _ e,h.mem y hy]
   exact ⟨.inl,fun hh=>hh.elim id (fun e'=>absurd e'.symm e)⟩
 ·rcases pH.1 hy with hy|rfl
  ·exact h.lt y hy
  ·exact hx
set_option maxHeartbeats 400000 in
theorem iJ (w0 w:World) (bi bm g n x:Nat) (mv:Value) (bs:List Bool) (made:List Nat) (hx:x < n) (hn:n≤400) (h:Sp w0 w bi bm g n mv bs made) :
  Calls Tryd.prog 112 #[.int .i64 (x:Int),.pointer (some ⟨bi,0,none⟩),.pointer (some ⟨bm,0,none⟩)] w (Added w0 w bi bm g n mv made x):=by
 have H:=Kh h
 have hml:=h.made_le
 obtain ⟨sa,sc,rfl⟩:=h.shape
 have ci:=zI h.box1 0 (by simp)
 have cx:=h.arr.bool x (by rw [h.len];exact hx)
 have fx:=h.arr.frozen x
 simp only [List.getElem_toArray,List.getElem_cons_zero] at ci
 have hx':(x:Int) < n:=by omega
 clear h
 cases hb:bs.getD x false
 ·rw [hb] at cx
  have HB:=Kh hb;clear hb
  have hset:=H.out.arr.bool_set x (by rw [H.out.len];exact hx) true
  have hgs1:=zH w ⟨g,x,none⟩ (.bool true)
  go_enter Tryd.func112,Tryd.ntmps112
  go_upto_region 2 with fail
  generalize hW:w.setCell ⟨g,x,none⟩ (.bool true)=w1 at hset hgs1
  have HW:=Kh hW
  have hlo:=H.out.lo
  have hg1:=zF H.out.fr hgs1 (by simp;omega)
  have hb2:=H.out.box2
  have hown:=H.out.own
  have hb2':=zE hb2 hgs1 (fun e=>by
   have:=Oj e
   exact (H.out.arr.type_ne hb2 (by decide)) this)
  have hb1':=zE H.out.box1 hgs1 (fun e=>(H.out.arr.type_ne H.out.box1 (by decide)) (Oj e))
  have hown':=hown.kept hgs1 (.inr (fun e=>by
   obtain ⟨cur,rest,hh,_⟩:=H.out.arr
   exact zS hown hh (by decide) e))
  have cm:=zI hb2' 0 (by simp)
  simp only [List.getElem_toArray,List.getElem_cons_zero] at cm
  have HB1:=Kh hb1';have HB2:=Kh hb2';have HSET:=Kh hset;have HGS:=Kh hgs1
  clear hW ci cx fx hset hgs1 hb2 hown hb1' hb2'
  go_wp2_with (at_builtin;refine app1s rfl _ _ _ rfl yG w0.heap.size _ made.length (nats made) rfl hown' _ rfl rfl ?c1 ?c2 ?c3 ?_)
  case c1=>unfold maxLen;omega
  case c2=>omega
  case c3=>exact hg1.size
  intro sa' sc' w3 hown3 hg3 hlt3 hmv
  have hne2:=zS hown' HB2.out (by decide)
  have hb23:=zE HB2.out hg3 hne2
  have hf3:=zD hb23 0
  have hc3:=zI hb23 0 (by simp)
  simp only [List.getElem_toArray,List.getElem_cons_zero] at hc3
  have hb13:=zE HB1.out hg3 (zS hown' HB1.out (by decide))
  have hset3:=HSET.out.kept hg3 (by
   obtain ⟨cur,rest,hh,_⟩:=HSET.out
   exact zS hown' hh (by decide))
  have hg03:=zF hg1 hg3 (fun k e=>(hown'.lt k e).1)
  have H13:=Kh hb13;have H23:=Kh hb23;have HS3:=Kh hset3;have HO3:=Kh hown3;have HG3:=Kh hg3;have HMV:=Kh hmv
  clear hb13 hb23 hset3 hown3 hg3 hown' cm hmv
  go_wp2
  go_end0
  have hgs:=zH w3 ⟨bm,0,none⟩ (.slice sa' (made.length+1) sc')
  have hz1:=HGS.out.size
  refine H.out.set hx HB.out (sa:=sa') (sc:=sc') ?_ (heap_setCell_same w3 bm 0 _ _ _ H23.out) ?_ ?_ (zF hg03 hgs (by simp;omega)) ⟨Nat.le_trans hz1 (Nat.le_trans HG3.out.size hgs.size),fun k hk h1 h2 h3=>?_,?_⟩
  ·refine zE H13.out hgs (fun e=>?_)
   have e':=Oj e
   have h1:=H13.out
   rw [← e',H23.out] at h1
   simp at h1
  ·exact HO3.out.kept hgs (.inr (zS HO3.out H23.out (by decide)))
  ·exact HS3.out.kept hgs (fun e=>(HS3.out.type_ne H23.out (by decide)) (Oj e).symm)
  ·exact (hgs.block k (by have:=HG3.out.size;omega) (fun e=>h2 (Oj e))).trans ((HG3.out.block k (by omega) (fun e=>h3 e.symm)).trans (HGS.out.block k hk (fun e=>h1 (Oj e))))
  ·rcases HMV.out with e|⟨e1,e2⟩
   ·exact .inl e
   ·exact .inr ⟨fun k hk h1 h2=>(hgs.block k (by have:=HG3.out.size;omega) (fun e=>h2 (Oj e))).trans ((e1.block k (by omega) (by simp)).trans (HGS.out.block k hk (fun e=>h1 (Oj e)))),fun k hk=>Nat.le_trans hz1 (e2 k hk)⟩
 ·rw [hb] at cx
  have HB:=Kh hb;clear hb
  go_enter Tryd.func112,Tryd.ntmps112
  go_wp2
  go_end0
  have hat:addTo made x=made:=by rw [addTo,if_pos ((H.out.mem x hx).1 HB.out)]
  refine ⟨rfl,bs,_,by rw [hat];exact H.out,Nat.le_refl _,fun _ _ _ _ _=>rfl,.inl rfl⟩
theorem owns_of_block {w w':World} {base e size:Nat} {v:Value} {n:Nat} {xs:List Value} (h:w.ownsRow base e size v n xs) (hb:∀ k,v.ownBlock=some k→w'.heap[k]?=w.heap[k]?):w'.ownsRow base e size v n xs:=by
 refine ⟨h.1,?_⟩
 rcases h.2 with h2|⟨g,cap,cur,rfl,h2,h3,h4⟩
 ·exact .inl h2
 ·exact .inr ⟨g,cap,cur,rfl,h2,(hb g rfl).trans h3,h4⟩
theorem Arr.of_block {w w':World} {g:Nat} {e:TypeId} {xs:List Value} (h:Arr w g e xs) (hb:w'.heap[g]?=w.heap[g]?):Arr w' g e xs:=by
 obtain ⟨cur,rest,h,hc⟩:=h
 exact ⟨cur,rest,hb.trans h,hc⟩
def Apart (v u:Value):Prop:=∀ k,v.ownBlock=some k→u.ownBlock≠some k
theorem Keep.gens {w0 w w':World} {bi bm g n base m:Nat} {mv mv' gv:Value} {bs:List Bool} {made:List Nat} {xs:List Value} (hk:Keep w w' bm g mv mv') (h:Sp w0 w bi bm g n mv bs made) (hg:w.ownsRow base 3 1 gv m xs) (ha:Apart gv mv) :
  w'.ownsRow base 3 1 gv m xs∧Apart gv mv':=by
 have hne1:gv.ownBlock≠some g:=by
  obtain ⟨cur,rest,hh,_⟩:=h.arr
  exact zS hg hh (by decide)
 have hne2:gv.ownBlock≠some bm:=zS hg h.box2 (by decide)
 refine ⟨owns_of_block hg (fun k e=>hk.k1 k (hg.lt k e).2 (fun e'=>hne1 (by rw [e,e'])) (fun e'=>hne2 (by rw [e,e'])) (ha k e)),fun k e=>?_⟩
 rcases hk.k2 with h1|⟨_,h1⟩
 ·rw [h1];exact ha k e
 ·intro e'
  have:=h1 k e'
  have:=(hg.lt k e).2
  omega
theorem Keep.pre {w0 w w':World} {bi bm g n kb:Nat} {mv mv':Value} {bs bs':List Bool} {made made' pre:List Nat} (hk:Keep w w' bm g mv mv') (h:Sp w0 w bi bm g n mv bs made) (h':Sp w0 w' bi bm g n mv' bs' made') (hp:∃ r,made'=pre ++ r) (ha:Arr w kb 3 (nats pre)):Arr w' kb 3 (nats pre):=by
 have hne1:kb≠g:=by
  rintro rfl
  obtain ⟨cur,rest,hh,_⟩:=h.arr
  exact (ha.type_ne hh (by decide)) rfl
 have hne2:kb≠bm:=ha.type_ne h.box2 (by decide)
 rcases hk.k2 with e|⟨e,_⟩
 ·by_cases hkb:mv.ownBlock=some kb
  ·have hkb':=e.trans hkb
   obtain ⟨r,rfl⟩:=hp
   have ho:=h'.own
   rcases ho.2 with ⟨rfl,_⟩|⟨g',cap',cur',rfl,_⟩
   ·simp [Value.ownBlock] at hkb'
   ·have eg:g'=kb:=by simpa [Value.ownBlock] using hkb'
    subst eg
    have:=Arr.of_owns ho
    rw [nats_append] at this
    exact this.front
  ·exact ha.of_block (hk.k1 kb ha.lt hne1 hne2 hkb)
 ·exact ha.of_block (e kb ha.lt hne1 hne2)
end Go.Proofs.YtdjhoadoiknaoaaDoor
