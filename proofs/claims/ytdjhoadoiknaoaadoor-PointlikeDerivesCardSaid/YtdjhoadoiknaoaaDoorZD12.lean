/- Part 12 of the proof: Minimal, Trans, Trans2, Trans3, EMem. -/
import Derived.Test.YtdjhoadoiknaoaaDoorZD11
set_option linter.unusedVariables false
set_option linter.unusedSimpArgs false
namespace Go.Proofs.YtdjhoadoiknaoaaDoor
open Go.RowKit
def gJ (d:DfaV) (p:List Nat) (i:Nat):List Bool:=(sM p i).map fun q=>d.final.getD q false
def gI (d:DfaV) (p:List Nat) (i:Nat):List (List Int):=(sM p i).map fun q=>sN p (d.next.getD q [])
theorem minFs_new {d:DfaV} {p:List Nat} {i:Nat} (h:p.getD i 0=cls (p.take i)):gJ d p (i+1)=gJ d p i ++ [d.final.getD i false]:=by simp only [gJ,sJ h,List.map_append,List.map_cons,List.map_nil]
theorem minTs_new {d:DfaV} {p:List Nat} {i:Nat} (h:p.getD i 0=cls (p.take i)):gI d p (i+1)=gI d p i ++ [sN p (d.next.getD i [])]:=by simp only [gI,sJ h,List.map_append,List.map_cons,List.map_nil]
theorem minFs_old {d:DfaV} {p:List Nat} {i:Nat} (h:p.getD i 0≠cls (p.take i)):gJ d p (i+1)=gJ d p i:=by simp only [gJ,sH h]
theorem minTs_old {d:DfaV} {p:List Nat} {i:Nat} (h:p.getD i 0≠cls (p.take i)):gI d p (i+1)=gI d p i:=by simp only [gI,sH h]
theorem jN {d:DfaV} {n k:Nat} (hd:VD d n k) {p:List Nat} {q:Nat} (hq:q < n):(sN p (d.next.getD q [])).length=k:=by rw [sN,List.length_map,hd.row q hq]
theorem mapRow_at {d:DfaV} {n k:Nat} (hd:VD d n k) {p:List Nat} {q a:Nat} (hq:q < n) (ha:a < k):(sN p (d.next.getD q [])).getD a 0=((p.getD (nx d q a) 0:Nat):Int):=by
 rw [dV (by rw [hd.row q hq];exact ha)]
 rfl
def MinOk (w:World) (m:DfaV) (e:Ending) (w':World):Prop:=∃ v,e=.returned v∧oV w w' v m∧w.grownBy w' none
set_option maxRecDepth 100000 in
set_option maxHeartbeats 2000000 in
theorem minimal_any (B:Nat) (w:World) (v:Value) (d:DfaV) (n k:Nat) (hB:B≤w.heap.size) (h:mG B w v d) (hd:VD d n k) :
  Calls Tryd.prog 45 #[v] w (MinOk w (minD d k)):=by
 have hdok:=h
 obtain ⟨fb,fo,fc,b,off,cap,RB,RO,RC,rfl,hat⟩:=h.at hd
 have hn:=hd.hn
 have hn1:=hd.n1
 have hn512:=hd.n512
 have hk6:=hd.k6
 have hk1:=hd.k1
 have hfc:=hat.fcap.1
 have hfc2:=hat.fcap.2
 have hcp:=hat.cap.1
 have hcp2:=hat.cap.2
 have hmx1:fc≤9223372036854775807:=by unfold maxLen at hfc2;omega
 have hmx2:cap≤9223372036854775807:=by unfold maxLen at hcp2;omega
 obtain ⟨S,hS⟩:∃ S,S=st0 d:=⟨_,rfl⟩
 have hSn:S < n:=by rw [hS];exact qAZ hd
 have HSE:=Kh hS
 have hvd:dAgg k (st0 d) fb fo fc b off cap n=.agg #[.int .i64 (k:Int),.int .i64 (S:Int),.slice (some ⟨fb,fo,none⟩) n fc,.slice (some ⟨b,off,none⟩) n cap]:=by rw [hS];rfl
 rw [hvd] at hdok ⊢
 obtain ⟨hb1,hb2,hgA,hzA⟩:=qQ w #[.int .i64 (k:Int),.int .i64 (S:Int),.slice (some ⟨fb,fo,none⟩) n fc,.slice (some ⟨b,off,none⟩) n cap] #[.int .i64 0,.int .i64 0,.slice none 0 0,.slice none 0 0] 28
 obtain ⟨wA,hWA⟩:∃ wA,wA=(w.alloc (.cells #[.int .i64 (k:Int),.int .i64 (S:Int),.slice (some ⟨fb,fo,none⟩) n fc,.slice (some ⟨b,off,none⟩) n cap] 28)).alloc (.cells #[.int .i64 0,.int .i64 0,.slice none 0 0,.slice none 0 0] 28):=⟨_,rfl⟩
 rw [← hWA] at hb1 hb2 hgA hzA
 obtain ⟨c0,c1,c2,c3⟩:=zR hb1
 obtain ⟨P,hP⟩:∃ P,P=w.heap.size:=⟨_,rfl⟩
 have HPE:=Kh hP
 rw [← hP] at hb1 hb2 c0 c1 c2 c3 hzA hB
 have HB1:=Kh hb1;have HB2:=Kh hb2;have HGA:=Kh hgA;have HWA:=Kh hWA;have HAT:=Kh (hat.kept hgA (by simp));have HN:=Kh hn;have HD:=Kh hd
 have HCL:=Kh (classes_any B wA _ d n k (by omega) (hdok.kept hgA (by simp)) hd)
 clear hb1 hb2 hgA hWA hat hn hd h hdok hvd hfc2 hcp2 hS
 go_enter Tryd.func45,Tryd.ntmps45
 go_upto_region 1 with fail
 rw [← HWA.out,← HPE.out]
 clear hP
 go_wp2_with fail
 refine HCL.out.mono ?_
 rintro e w1 ⟨G,rfl,hg1P,hra1,hg1⟩
 have hpl:(sO d k).length=n:=by rw [pJ,HN.out]
 have hpn:=jU d k
 obtain ⟨p,hp⟩:∃ p,p=sO d k:=⟨_,rfl⟩
 have HP:=Kh hp
 rw [← hp] at hra1 hpl hpn ⊢
 rw [hpl]
 have hplt:=cZ hpn
 rw [hpl] at hplt
 have HRA:=Kh hra1;have HG1:=Kh hg1;have HPN:=Kh hpn;have HPL:=Kh hpl;have HPLT:=Kh hplt
 have hz1:=hg1.size
 have hgl:=hra1.1
 obtain ⟨d0,d1,d2,d3⟩:=zR (zE HB1.out hg1 (by simp))
 have cp:=hra1.nat S (by rw [hpl];exact hSn)
 rw [Nat.zero_add] at cp
 obtain ⟨ps,hps⟩:∃ ps,ps=p.getD S 0:=⟨_,rfl⟩
 have HPS:=Kh hps
 rw [← hps] at cp
 have hSn':(S:Int) < n:=by omega
 have hn0:=World.new_ne w1 _ d0
 have hn1':=World.new_ne w1 _ d1
 have hn2:=World.new_ne w1 _ cp
 have hlP:=World.block_lt_of_cell? w1 _ d0
 simp only at hn0 hn1' hn2 hlP
 have hPG:P < w1.heap.size:=hlP
 clear hp hra1 hg1 hpl hpn hplt HCL c0 c1 c2 c3 d2 d3 hps
 go_upto_region 2 with fail
 go_region_held3 (fun w'=>w'.cell? ⟨P,0,none⟩=some (.int .i64 (k:Int))∧w'.cell? ⟨P,1,none⟩=some (.int .i64 (S:Int))∧w'.cell? ⟨G,S,none⟩=some (.int .i64 (ps:Int))) (first|go_keep|fail) (fail)
 obtain ⟨w4,rfl⟩:∃ w4:World,w4=w1:=⟨_,rfl⟩
 obtain ⟨O,hO⟩:∃ O,O=w4.heap.size:=⟨_,rfl⟩
 obtain ⟨w6,hw6⟩:∃ w6,w6=(w4.alloc (.cells #[.int .i64 (k:Int),.int .i64 (ps:Int),.slice none 0 0,.slice none 0 0] 28)).drew:=⟨_,rfl⟩
 rw [← hw6,← hO]
 have hg46:w4.grownBy w6 none:=by rw [hw6];exact zF (Ga w4 _ none) (zT _ _)
 have hbO:w6.heap[O]?=some (.cells #[.int .i64 (k:Int),.int .i64 (ps:Int),.slice none 0 0,.slice none 0 0] 28 (0,0)):=by rw [hw6,hO];exact heap_alloc_new w4 _
 have hB6:Built O w6 O k ps [] [] [] none 0 none 0:=⟨hbO,World.ownsRow_nil _ _ _ _,World.ownsRow_nil _ _ _ _,rY.nil,rfl⟩
 have HB6:=Kh hB6;have HG46:=Kh hg46;have HOE:=Kh hO
 have hGO:G < O:=by omega
 have hPO:P+1 < O:=by omega
 have hz46:=hg46.size
 clear hbO hB6 hg46 hw6 hO hn0 hn1' hn2 hlP hPG d0 d1 cp
 go_wp2
 go_loopg [5,6,7,23] n (fun gh v5 a6 a7 i wr=>∃ (i':Nat) (hs:List Value) (sf:Option Addr) (cf:Nat) (sn:Option Addr) (cn:Nat),gh+i'=n∧i=.int .i64 i'∧v5=.int .i64 (cls (p.take i'):Nat)∧Built O wr O k ps (gJ d p i') (gI d p i') hs sf cf sn cn∧w4.grownBy wr (some O))
 case atStart=>exact ⟨0,[],none,0,none,0,rfl,rfl,rfl,HB6.out,wI HG46.out⟩
 case round =>
  clear HB6 HG46
  obtain ⟨i,hs,sf,cf,sn,cn,hg,rfl,rfl,hbt,hgr⟩:=hrel
  have HGI:=Kh hg
  have HBT0:=Kh hbt;have HGR:=Kh hgr
  have hzr:=hgr.size
  clear hg
  by_cases hi:i < n
  ·have hi':(i:Int) < n:=by omega
   have hP1:O≠P:=by omega
   have hG1:O≠G:=by omega
   have hci:=(HRA.out.kept hgr (fun e=>hG1 (Oj e))).nat i (by rw [HPL.out];exact hi)
   rw [Nat.zero_add] at hci
   obtain ⟨hnw0,hnw1,hnw2⟩:=cY HPN.out (q:=i) (by rw [HPL.out];exact hi)
   have hcl:=qBX (p.take i)
   rw [List.length_take] at hcl
   obtain ⟨c,hc⟩:∃ c,c=cls (p.take i):=⟨_,rfl⟩
   rw [← hc] at hnw0 hnw1 hnw2 hcl ⊢
   obtain ⟨x,hx⟩:∃ x,x=p.getD i 0:=⟨_,rfl⟩
   rw [← hx] at hci hnw0 hnw1 hnw2
   by_cases hxc:x=c
   ·have HFS:=Kh (minFs_new (d:=d) (hx.symm.trans (hxc.trans hc)));have HTS:=Kh (minTs_new (d:=d) (hx.symm.trans (hxc.trans hc)))
    have HCN:Hid (cls (p.take (i+1))=c+1):=Kh (hnw1 hxc)
    have e1:((x:Int) != (c:Int))=false:=by rw [hxc];simp
    have hfl:(gJ d p i).length=c:=by simp only [gJ,List.length_map];rw [sK HPN.out i (by rw [HPL.out];omega),hc]
    have htl:(gI d p i).length=c:=by simp only [gI,List.length_map];rw [sK HPN.out i (by rw [HPL.out];omega),hc]
    have hA:=(HAT.out.kept HG1.out (by simp)).kept hgr (fun k e=>by have:=Oj e;omega)
    have ch:=hA.hd i hi
    obtain ⟨d0,d1,d2,d3⟩:=zR (zE (zE HB1.out HG1.out (by simp)) hgr (fun e=>hP1 (Oj e)))
    obtain ⟨wo,rfl⟩:∃ wo:World,wo=wr:=⟨_,rfl⟩
    have HAO:=Kh hA
    clear hA hbt hgr hnw0 hnw1 hnw2 hx hxc hc
    go_wp2
    go_loopg [8,39] k (fun gh ov i' wr=>∃ (a:Nat) (sr:Option Addr) (cr:Nat),gh+a=k∧i'=.int .i64 a∧ov=.slice sr a cr∧wr.ownsRow wo.heap.size 3 1 (.slice sr a cr) a (ints ((sN p (d.next.getD i [])).take a))∧wo.grownBy wr none)
    case atStart=>exact ⟨0,none,0,rfl,rfl,rfl,by simpa [ints] using World.ownsRow_nil _ _ _ _,zW _ _⟩
    case round =>
     obtain ⟨a,sr,cr,hg,rfl,rfl,hown,hgr⟩:=hrel
     have HGQ:=Kh hg;have HOWN:=Kh hown;have HGRQ:=Kh hgr
     clear hg hown d0 d1 d2 d3
     by_cases ha:a < k
     ·have ha':(a:Int) < k:=by omega
      have hA:=HAO.out.kept hgr (by simp)
      have ce:=hA.el i a hi ha
      have hrc:=(hA.rcap i hi).1
      have hnx:=aH HD.out hi ha
      have cp:=((HRA.out.kept HGR.out (fun e=>hG1 (Oj e))).kept hgr (by simp)).nat (nx d i a) (by rw [HPL.out];exact hnx)
      rw [Nat.zero_add] at cp
      have HRT:Hid ((sN p (d.next.getD i [])).take (a+1)=(sN p (d.next.getD i [])).take a ++ [((p.getD (nx d i a) 0:Nat):Int)]):=Kh (by
       rw [yG (d:=0) (by rw [jN HD.out hi];exact ha),mapRow_at HD.out hi ha])
      obtain ⟨s,hs⟩:∃ s,s=nx d i a:=⟨_,rfl⟩
      rw [← hs] at ce hnx cp HRT
      obtain ⟨y,hy⟩:∃ y,y=p.getD s 0:=⟨_,rfl⟩
      rw [← hy] at cp HRT
      have hgs:=hgr.size
      have hnx':(s:Int) < n:=by omega
      clear hA hs hy hgr
      go_wp2_with (first|(at_builtin;refine app1 rfl _ _ _ rfl yC wo.heap.size _ a (ints ((sN p (d.next.getD i [])).take a)) rfl HOWN.out _ rfl rfl ?c1 ?c2 ?c3 ?_)|fail)
      case c1=>unfold maxLen;omega
      case c2=>omega
      case c3=>exact hgs
      intro sa' sc' w6 hown6 hg6 hlt6
      have HO6:=Kh hown6;have HG6:=Kh hg6
      clear hown6 hg6
      go_wp2
      go_roundg (k - (a+1))
      case measure=>have:=HGQ.out;omega
      case rel =>
       refine ⟨a+1,sa',sc',by omega,by go_num,rfl,?_,zG HGRQ.out HG6.out (fun q e=>(HOWN.out.lt q e).1)⟩
       rw [HRT.out,aR]
       exact HO6.out
     ·have hak:a=k:=by have:=HGQ.out;omega
      have hrk:(sN p (d.next.getD i [])).take a=sN p (d.next.getD i []):=by rw [hak,← jN HD.out (p:=p) hi];exact List.take_length
      rw [hrk] at HOWN
      obtain ⟨w5,hw5⟩:∃ w5,w5=wr.drew:=⟨_,rfl⟩
      have HW5:=Kh hw5
      have hg5:wr.grownBy w5 none:=by rw [hw5];exact zT wr none
      have HBT:=Kh ((HBT0.out.grow hgr).grow hg5)
      have HROW:Hid (RowT w5.heap.size 3 w5 (.slice sr a cr) (ints (sN p (d.next.getD i [])))):=Kh (RowT.of_owns (yF HOWN.out hg5 (by simp)))
      have HG5:=Kh (zF HGR.out (wI (zF hgr hg5) (row:=some O)))
      have hBX:=HBT.out.box
      have HBX5:=Kh hBX;have HNB:=Kh HBT.out.notbox
      have hz5:O≤w5.heap.size:=by have:=hgr.size;have:=hg5.size;have:=HOE.out;omega
      have cq:=(((HAO.out.kept hgr (by simp)).kept hg5 (by simp))).fin hi
      obtain ⟨_,_,d2,_⟩:=zR (zE (zE (zE (zE HB1.out HG1.out (by simp)) HGR.out (fun e=>hP1 (Oj e))) hgr (by simp)) hg5 (by simp))
      have hfw:=HAO.out.flt
      have hfO:O≠fb:=by omega
      obtain ⟨bq,hbq⟩:∃ bq,bq=d.final.getD i false:=⟨_,rfl⟩
      rw [← hbq] at cq HFS
      obtain ⟨fsl,hfsl⟩:∃ x,x=gJ d p i:=⟨_,rfl⟩
      obtain ⟨tsl,htsl⟩:∃ x,x=gI d p i:=⟨_,rfl⟩
      rw [← hfsl] at HBT HBX5 HFS hfl
      rw [← htsl] at HBT HBX5 HTS htl
      obtain ⟨m,hm⟩:∃ m,m=c:=⟨_,rfl⟩
      rw [← hm] at hfl htl
      have HTL2:=Kh htl
      have hM0:=HBT.out.many
      have hM:Many w5 (FB sf sn) w5 [⟨O,22,.slice sn m cn,m,hs,1⟩,⟨O,4,.slice sf m cf,m,bls fsl,1⟩] [] []:=by
       have h1:=hM0
       simp only [rN,rF,hfl,htl] at h1
       exact h1
      have HAF:Hid (∀ W:World,(W.cell? ⟨P,2,none⟩=some (.slice (some ⟨fb,fo,none⟩) n fc)∧W.cell? ⟨fb,fo+i,none⟩=some (.bool bq))→∀ (c:Nat) (X:Value),(W.setCell ⟨O,c,none⟩ X).cell? ⟨P,2,none⟩=some (.slice (some ⟨fb,fo,none⟩) n fc)∧(W.setCell ⟨O,c,none⟩ X).cell? ⟨fb,fo+i,none⟩=some (.bool bq)):=Kh (fun W h c X =>
       ⟨by rw [World.cell?_setCell_far W ⟨O,c,none⟩ ⟨P,2,none⟩ X hP1];exact h.1,by rw [World.cell?_setCell_far W ⟨O,c,none⟩ ⟨fb,fo+i,none⟩ X hfO];exact h.2⟩)
      have HAB:Hid (∀ W rs ls,Many w5 (FB sf sn) W rs ls []→(W.cell? ⟨P,2,none⟩=some (.slice (some ⟨fb,fo,none⟩) n fc)∧W.cell? ⟨fb,fo+i,none⟩=some (.bool bq))∧(W.cell? ⟨O,3,none⟩=some (.slice sn m cn)∧W.cell? ⟨O,2,none⟩=some (.slice sf m cf))):=Kh (fun W rs ls h=>by
       have hge:=HBT.out.ge
       have hb:=h.but.heap HBX5.out HNB.out
       rw [hfl,htl] at hb
       obtain ⟨_,_,e2,e3⟩:=zR hb
       exact ⟨⟨h.but.cell d2 (fun hf=>by have:=hge _ hf;simp only at this;omega),h.but.cell cq (fun hf=>by have:=hge _ hf;simp only at this;omega)⟩,e3,e2⟩)
      rw [hfl,htl] at HBX5
      have hmi:Hid (m=c):=Kh hm
      have hm9:m≤512:=by omega
      clear hM0 hBX hrk hak hw5 hg5 hgr hbq hfsl htsl hm hfl htl ch d2 cq
      go_upto_region 15 with fail
      refine wp_region_noPanic ?_
      refine yY (G:=vV 15 (fun W=>W.cell? ⟨P,2,none⟩=some (.slice (some ⟨fb,fo,none⟩) n fc)∧W.cell? ⟨fb,fo+i,none⟩=some (.bool bq)) (fun W=>W.cell? ⟨O,3,none⟩=some (.slice sn m cn)∧W.cell? ⟨O,2,none⟩=some (.slice sf m cf))) (by kernel_rfl) ?_
      rw [← HW5.out]
      refine takeC (i:=0) (v:=?_) rfl rfl (Or.inl ⟨by rfl,?_⟩) ⟨(HAB.out _ _ _ hM).1,fun _=>(HAB.out _ _ _ hM).2⟩ ?_
      rotate_left
      ·(intro wz hz;(try dsimp only at hz);go_simp;(try with_reducible rfl))
      try simp only [Act.put,sPa,sPb,sPc]
      refine takeD (i:=1) (v:=?_) rfl rfl (Or.inl ⟨by rfl,?_⟩) ⟨(HAB.out _ _ _ hM).1,fun _=>(HAB.out _ _ _ hM).2⟩ ?_
      rotate_left
      ·(intro wz hz;(try dsimp only at hz);go_simp;(try with_reducible rfl))
      try simp only [Act.put,sPa,sPb,sPc]
      refine takeC (i:=2) (v:=?_) rfl rfl (Or.inl ⟨by rfl,?_⟩) ⟨(HAB.out _ _ _ hM).1,fun _=>(HAB.out _ _ _ hM).2⟩ ?_
      rotate_left
      ·(intro wz hz;(try dsimp only at hz);go_simp;(try with_reducible rfl))
      try simp only [Act.put,sPa,sPb,sPc]
      refine takeC (i:=5) (v:=?_) rfl rfl (Or.inl ⟨by rfl,?_⟩) ⟨(HAB.out _ _ _ hM).1,fun _=>(HAB.out _ _ _ hM).2⟩ ?_
      rotate_left
      ·(intro wz hz;(try dsimp only at hz);go_simp;(try with_reducible rfl))
      try simp only [Act.put,sPa,sPb,sPc]
      refine takeD (i:=6) (v:=?_) rfl rfl (Or.inl ⟨by rfl,?_⟩) ⟨(HAB.out _ _ _ hM).1,fun _=>(HAB.out _ _ _ hM).2⟩ ?_
      rotate_left
      ·(intro wz hz;(try dsimp only at hz);go_simp;(try with_reducible rfl))
      try simp only [Act.put,sPa,sPb,sPc]
      refine takeC (i:=7) (v:=?_) rfl rfl (Or.inl ⟨by rfl,?_⟩) ⟨(HAB.out _ _ _ hM).1,fun _=>(HAB.out _ _ _ hM).2⟩ ?_
      rotate_left
      ·(intro wz hz;(try dsimp only at hz);go_simp;(try with_reducible rfl))
      try simp only [Act.put,sPa,sPb,sPc]
      refine takeC (i:=8) (v:=?_) rfl rfl (Or.inl ⟨by rfl,?_⟩) ⟨(HAB.out _ _ _ hM).1,fun _=>(HAB.out _ _ _ hM).2⟩ ?_
      rotate_left
      ·(intro wz hz;(try dsimp only at hz);go_simp;(try with_reducible rfl))
      try simp only [Act.put,sPa,sPb,sPc]
      refine takeC (i:=9) (v:=?_) rfl rfl (Or.inl ⟨by rfl,?_⟩) ⟨(HAB.out _ _ _ hM).1,fun _=>(HAB.out _ _ _ hM).2⟩ ?_
      rotate_left
      ·(intro wz hz;(try dsimp only at hz);go_simp;(try with_reducible rfl))
      try simp only [Act.put,sPa,sPb,sPc]
      refine takeC (i:=10) (v:=?_) rfl rfl (Or.inl ⟨by rfl,?_⟩) ⟨(HAB.out _ _ _ hM).1,fun _=>(HAB.out _ _ _ hM).2⟩ ?_
      rotate_left
      ·(intro wz hz;(try dsimp only at hz);go_simp;(try with_reducible rfl))
      try simp only [Act.put,sPa,sPb,sPc]
      refine takeC (i:=11) (v:=?_) rfl rfl (Or.inl ⟨by rfl,?_⟩) ⟨(HAB.out _ _ _ hM).1,fun _=>(HAB.out _ _ _ hM).2⟩ ?_
      rotate_left
      ·(intro wz hz;(try dsimp only at hz);go_simp;(try with_reducible rfl))
      try simp only [Act.put,sPa,sPb,sPc]
      refine twoG (i:=3) (j:=12) (by kernel_rfl) rfl rfl (fun K hK=>?_) (fun K hK=>?_)
      ·skip
       go_simp
       refine hK.out _ _ ⟨(HAB.out _ _ _ (hM.alloc _)).1,fun _=>(HAB.out _ _ _ (hM.alloc _)).2⟩ ?_
       clear hK K
       try simp only [Act.put,sPa,sPb,sPc]
       refine twoG (i:=4) (j:=12) (by kernel_rfl) rfl rfl (fun K hK=>?_) (fun K hK=>?_)
       ·skip
        refine uQ rfl (.tmp 52) (.tmp 54) 26 rfl vO 0 _ _ rfl ⟨_,_,_,_,_,(hM.alloc _),_,rfl,rfl,rfl,rfl,?g3,?g4,hz5,_,_,_,List.Mem.head _,(by first|rfl|simp),rfl,?_⟩
        case g3=>(simp only [];unfold maxLen;omega)
        case g4=>(simp only [];omega)
        intro sa1 sc1 w1x hM1
        have hl0:=hM1.litcell (List.Mem.head _)
        try simp only [zO] at hl0
        refine hK.out _ _ ⟨(HAB.out _ _ _ hM1).1,fun _=>(HAB.out _ _ _ hM1).2⟩ ?_
        clear hK K
        try simp only [Act.put,sPa,sPb,sPc]
        refine takeC (i:=14) (v:=?_) rfl rfl (Or.inl ⟨by rfl,?_⟩) ⟨(HAB.out _ _ _ hM1).1,fun _=>(HAB.out _ _ _ hM1).2⟩ ?_
        rotate_left
        ·(intro wz hz;(try dsimp only at hz);go_simp;(try with_reducible rfl))
        try simp only [Act.put,sPa,sPb,sPc]
        refine oneG (i:=12) (by kernel_rfl) rfl (fun K hK=>?_)
        go_simp
        refine hK.out _ _ ⟨(HAB.out _ _ _ (hM1.alloc _)).1,fun _=>(HAB.out _ _ _ (hM1.alloc _)).2⟩ ?_
        clear hK K
        try simp only [Act.put,sPa,sPb,sPc]
        refine oneG (i:=13) (by kernel_rfl) rfl (fun K hK=>?_)
        refine uQ rfl (.tmp 57) (.tmp 63) 25 rfl wJ 1 _ _ rfl ⟨_,_,_,_,_,(hM1.alloc _),_,rfl,rfl,rfl,rfl,?g3,?g4,hz5,_,_,_,List.Mem.head _,(by first|rfl|simp),rfl,?_⟩
        case g3=>(simp only [];unfold maxLen;omega)
        case g4=>(simp only [];omega)
        intro sa2 sc2 w2x hM2
        have hl0:=hM2.litcell (List.Mem.head _)
        try simp only [zO] at hl0
        have hl1:=hM2.litcell (List.Mem.tail _ (List.Mem.head _))
        try simp only [zO] at hl1
        refine hK.out _ _ ⟨(HAB.out _ _ _ hM2).1,fun _=>(HAB.out _ _ _ hM2).2⟩ ?_
        clear hK K
        try simp only [Act.put,sPa,sPb,sPc]
        refine oneG (i:=15) (by kernel_rfl) rfl (fun K hK=>?_)
        have hbx:=hM2.but.heap HBX5.out HNB.out
        have cb3:=zI hbx 3 (by simp)
        have cb2:=zI hbx 2 (by simp)
        have fb3:=zD hbx 3
        have fb2:=zD hbx 2
        simp only [List.getElem_toArray,List.getElem_cons_zero,List.getElem_cons_succ] at cb3 cb2
        go_simp
        have hbx2:=heap_setCell_same _ O 3 _ _ (.slice sa1 (m+1) sc1) hbx
        have cb22:=zI hbx2 2 (by simp)
        have fb22:=zD hbx2 2
        simp at cb22
        have hAS:=HAF.out _ (HAB.out _ _ _ hM2).1 3 (.slice sa1 (m+1) sc1)
        refine hK.out _ _ ⟨hAS,fun h=>by simp at h⟩ ?_
        clear hK K
        try simp only [Act.put,sPa,sPb,sPc]
        refine takeC (i:=16) (v:=?_) rfl rfl (Or.inl ⟨by rfl,?_⟩) ⟨hAS,fun h=>by simp at h⟩ ?_
        rotate_left
        ·(intro wz hz;(try dsimp only at hz);go_simp;(try with_reducible rfl))
        try simp only [Act.put,sPa,sPb,sPc]
        refine oneG (i:=17) (by kernel_rfl) rfl (fun K hK=>?_)
        go_simp
        have hAS2:=HAF.out _ hAS 2 (.slice sa2 (m+1) sc2)
        refine hK.out _ _ ⟨hAS2,fun h=>by simp at h⟩ ?_
        clear hK K
        try simp only [Act.put,sPa,sPb,sPc]
        refine nW (by kernel_rfl) ?_ _
        refine NoPanic.normal ?_
        obtain ⟨hbt,hgw⟩:=HBT.out.push (b:=bq) (row:=sN p (d.next.getD i [])) HTL2.out hM2 HROW.out rfl
        have HBT7:=Kh hbt
        have HG7:=Kh (hgw w4 HG5.out (by have:=HOE.out;omega))
        clear hbt hgw cb3 cb2 fb3 fb2 hbx hbx2 cb22 fb22 hAS hAS2 hM2
        (try clear hM1)
        go_wp2
        go_roundg (n - (i+1))
        case measure=>have:=HGI.out;omega
        case rel=>exact ⟨i+1,_,_,_,_,_,by omega,by go_num,by rw [HCN.out];rfl,HBT7.out.congr HFS.out HTS.out,HG7.out⟩
       ·skip
        go_simp
        refine hK.out _ _ ⟨(HAB.out _ _ _ ((hM.alloc _).alloc _)).1,fun _=>(HAB.out _ _ _ ((hM.alloc _).alloc _)).2⟩ ?_
        clear hK K
        try simp only [Act.put,sPa,sPb,sPc]
        refine oneG (i:=4) (by kernel_rfl) rfl (fun K hK=>?_)
        refine uQ rfl (.tmp 52) (.tmp 54) 26 rfl vO 0 _ _ rfl ⟨_,_,_,_,_,((hM.alloc _).alloc _),_,rfl,rfl,rfl,rfl,?g3,?g4,hz5,_,_,_,List.Mem.tail _ (List.Mem.head _),(by first|rfl|simp),rfl,?_⟩
        case g3=>(simp only [];unfold maxLen;omega)
        case g4=>(simp only [];omega)
        intro sa3 sc3 w3x hM3
        have hl0:=hM3.litcell (List.Mem.head _)
        try simp only [zO] at hl0
        have hl1:=hM3.litcell (List.Mem.tail _ (List.Mem.head _))
        try simp only [zO] at hl1
        refine hK.out _ _ ⟨(HAB.out _ _ _ hM3).1,fun _=>(HAB.out _ _ _ hM3).2⟩ ?_
        clear hK K
        try simp only [Act.put,sPa,sPb,sPc]
        refine takeC (i:=14) (v:=?_) rfl rfl (Or.inl ⟨by rfl,?_⟩) ⟨(HAB.out _ _ _ hM3).1,fun _=>(HAB.out _ _ _ hM3).2⟩ ?_
        rotate_left
        ·(intro wz hz;(try dsimp only at hz);go_simp;(try with_reducible rfl))
        try simp only [Act.put,sPa,sPb,sPc]
        refine oneG (i:=13) (by kernel_rfl) rfl (fun K hK=>?_)
        refine uQ rfl (.tmp 57) (.tmp 63) 25 rfl wJ 1 _ _ rfl ⟨_,_,_,_,_,hM3,_,rfl,rfl,rfl,rfl,?g3,?g4,hz5,_,_,_,List.Mem.head _,(by first|rfl|simp),rfl,?_⟩
        case g3=>(simp only [];unfold maxLen;omega)
        case g4=>(simp only [];omega)
        intro sa4 sc4 w4x hM4
        have hl0:=hM4.litcell (List.Mem.head _)
        try simp only [zO] at hl0
        have hl1:=hM4.litcell (List.Mem.tail _ (List.Mem.head _))
        try simp only [zO] at hl1
        refine hK.out _ _ ⟨(HAB.out _ _ _ hM4).1,fun _=>(HAB.out _ _ _ hM4).2⟩ ?_
        clear hK K
        try simp only [Act.put,sPa,sPb,sPc]
        refine oneG (i:=15) (by kernel_rfl) rfl (fun K hK=>?_)
        have hbx:=hM4.but.heap HBX5.out HNB.out
        have cb3:=zI hbx 3 (by simp)
        have cb2:=zI hbx 2 (by simp)
        have fb3:=zD hbx 3
        have fb2:=zD hbx 2
        simp only [List.getElem_toArray,List.getElem_cons_zero,List.getElem_cons_succ] at cb3 cb2
        go_simp
        have hbx2:=heap_setCell_same _ O 3 _ _ (.slice sa3 (m+1) sc3) hbx
        have cb22:=zI hbx2 2 (by simp)
        have fb22:=zD hbx2 2
        simp at cb22
        have hAS:=HAF.out _ (HAB.out _ _ _ hM4).1 3 (.slice sa3 (m+1) sc3)
        refine hK.out _ _ ⟨hAS,fun h=>by simp at h⟩ ?_
        clear hK K
        try simp only [Act.put,sPa,sPb,sPc]
        refine takeC (i:=16) (v:=?_) rfl rfl (Or.inl ⟨by rfl,?_⟩) ⟨hAS,fun h=>by simp at h⟩ ?_
        rotate_left
        ·(intro wz hz;(try dsimp only at hz);go_simp;(try with_reducible rfl))
        try simp only [Act.put,sPa,sPb,sPc]
        refine oneG (i:=17) (by kernel_rfl) rfl (fun K hK=>?_)
        go_simp
        have hAS2:=HAF.out _ hAS 2 (.slice sa4 (m+1) sc4)
        refine hK.out _ _ ⟨hAS2,fun h=>by simp at h⟩ ?_
        clear hK K
        try simp only [Act.put,sPa,sPb,sPc]
        refine nW (by kernel_rfl) ?_ _
        refine NoPanic.normal ?_
        obtain ⟨hbt,hgw⟩:=HBT.out.push (b:=bq) (row:=sN p (d.next.getD i [])) HTL2.out hM4 HROW.out rfl
        have HBT7:=Kh hbt
        have HG7:=Kh (hgw w4 HG5.out (by have:=HOE.out;omega))
        clear hbt hgw cb3 cb2 fb3 fb2 hbx hbx2 cb22 fb22 hAS hAS2 hM4
        (try clear hM3)
        go_wp2
        go_roundg (n - (i+1))
        case measure=>have:=HGI.out;omega
        case rel=>exact ⟨i+1,_,_,_,_,_,by omega,by go_num,by rw [HCN.out];rfl,HBT7.out.congr HFS.out HTS.out,HG7.out⟩
      ·skip
       go_simp
       refine hK.out _ _ ⟨(HAB.out _ _ _ (hM.alloc _)).1,fun _=>(HAB.out _ _ _ (hM.alloc _)).2⟩ ?_
       clear hK K
       try simp only [Act.put,sPa,sPb,sPc]
       refine oneG (i:=3) (by kernel_rfl) rfl (fun K hK=>?_)
       go_simp
       refine hK.out _ _ ⟨(HAB.out _ _ _ ((hM.alloc _).alloc _)).1,fun _=>(HAB.out _ _ _ ((hM.alloc _).alloc _)).2⟩ ?_
       clear hK K
       try simp only [Act.put,sPa,sPb,sPc]
       refine oneG (i:=4) (by kernel_rfl) rfl (fun K hK=>?_)
       refine uQ rfl (.tmp 52) (.tmp 54) 26 rfl vO 0 _ _ rfl ⟨_,_,_,_,_,((hM.alloc _).alloc _),_,rfl,rfl,rfl,rfl,?g3,?g4,hz5,_,_,_,List.Mem.head _,(by first|rfl|simp),rfl,?_⟩
       case g3=>(simp only [];unfold maxLen;omega)
       case g4=>(simp only [];omega)
       intro sa5 sc5 w5x hM5
       have hl0:=hM5.litcell (List.Mem.head _)
       try simp only [zO] at hl0
       have hl1:=hM5.litcell (List.Mem.tail _ (List.Mem.head _))
       try simp only [zO] at hl1
       refine hK.out _ _ ⟨(HAB.out _ _ _ hM5).1,fun _=>(HAB.out _ _ _ hM5).2⟩ ?_
       clear hK K
       try simp only [Act.put,sPa,sPb,sPc]
       refine takeC (i:=14) (v:=?_) rfl rfl (Or.inl ⟨by rfl,?_⟩) ⟨(HAB.out _ _ _ hM5).1,fun _=>(HAB.out _ _ _ hM5).2⟩ ?_
       rotate_left
       ·(intro wz hz;(try dsimp only at hz);go_simp;(try with_reducible rfl))
       try simp only [Act.put,sPa,sPb,sPc]
       refine oneG (i:=13) (by kernel_rfl) rfl (fun K hK=>?_)
       refine uQ rfl (.tmp 57) (.tmp 63) 25 rfl wJ 1 _ _ rfl ⟨_,_,_,_,_,hM5,_,rfl,rfl,rfl,rfl,?g3,?g4,hz5,_,_,_,List.Mem.tail _ (List.Mem.head _),(by first|rfl|simp),rfl,?_⟩
       case g3=>(simp only [];unfold maxLen;omega)
       case g4=>(simp only [];omega)
       intro sa6 sc6 w6x hM6
       have hl0:=hM6.litcell (List.Mem.head _)
       try simp only [zO] at hl0
       have hl1:=hM6.litcell (List.Mem.tail _ (List.Mem.head _))
       try simp only [zO] at hl1
       refine hK.out _ _ ⟨(HAB.out _ _ _ hM6).1,fun _=>(HAB.out _ _ _ hM6).2⟩ ?_
       clear hK K
       try simp only [Act.put,sPa,sPb,sPc]
       refine oneG (i:=15) (by kernel_rfl) rfl (fun K hK=>?_)
       have hbx:=hM6.but.heap HBX5.out HNB.out
       have cb3:=zI hbx 3 (by simp)
       have cb2:=zI hbx 2 (by simp)
       have fb3:=zD hbx 3
       have fb2:=zD hbx 2
       simp only [List.getElem_toArray,List.getElem_cons_zero,List.getElem_cons_succ] at cb3 cb2
       go_simp
       have hbx2:=heap_setCell_same _ O 3 _ _ (.slice sa5 (m+1) sc5) hbx
       have cb22:=zI hbx2 2 (by simp)
       have fb22:=zD hbx2 2
       simp at cb22
       have hAS:=HAF.out _ (HAB.out _ _ _ hM6).1 3 (.slice sa5 (m+1) sc5)
       refine hK.out _ _ ⟨hAS,fun h=>by simp at h⟩ ?_
       clear hK K
       try simp only [Act.put,sPa,sPb,sPc]
       refine takeC (i:=16) (v:=?_) rfl rfl (Or.inl ⟨by rfl,?_⟩) ⟨hAS,fun h=>by simp at h⟩ ?_
       rotate_left
       ·(intro wz hz;(try dsimp only at hz);go_simp;(try with_reducible rfl))
       try simp only [Act.put,sPa,sPb,sPc]
       refine oneG (i:=17) (by kernel_rfl) rfl (fun K hK=>?_)
       go_simp
       have hAS2:=HAF.out _ hAS 2 (.slice sa6 (m+1) sc6)
       refine hK.out _ _ ⟨hAS2,fun h=>by simp at h⟩ ?_
       clear hK K
       try simp only [Act.put,sPa,sPb,sPc]
       refine nW (by kernel_rfl) ?_ _
       refine NoPanic.normal ?_
       obtain ⟨hbt,hgw⟩:=HBT.out.push (b:=bq) (row:=sN p (d.next.getD i [])) HTL2.out hM6 HROW.out rfl
       have HBT7:=Kh hbt
       have HG7:=Kh (hgw w4 HG5.out (by have:=HOE.out;omega))
       clear hbt hgw cb3 cb2 fb3 fb2 hbx hbx2 cb22 fb22 hAS hAS2 hM6
       (try clear hM5)
       go_wp2
       go_roundg (n - (i+1))
       case measure=>have:=HGI.out;omega
       case rel=>exact ⟨i+1,_,_,_,_,_,by omega,by go_num,by rw [HCN.out];rfl,HBT7.out.congr HFS.out HTS.out,HG7.out⟩
   ·have HFS:=Kh (minFs_old (d:=d) (fun e=>hxc (hx.trans (e.trans hc.symm))));have HTS:=Kh (minTs_old (d:=d) (fun e=>hxc (hx.trans (e.trans hc.symm))))
    have HCN:Hid (cls (p.take (i+1))=c):=Kh (hnw2 hxc)
    have e1:((x:Int) != (c:Int))=true:=by rw [bne_iff_ne];omega
    clear hbt hgr hnw0 hnw1 hnw2 hx hc hxc
    go_wp2
    go_roundg (n - (i+1))
    case measure=>have:=HGI.out;omega
    case rel=>exact ⟨i+1,hs,sf,cf,sn,cn,by omega,by go_num,by rw [HCN.out],HBT0.out.congr HFS.out HTS.out,HGR.out⟩
  ·have hin:i=n:=by have:=HGI.out;omega
   have hE:(⟨(k:Int),(ps:Int),gJ d p i,gI d p i⟩:DfaV)=kJ d p:=by
    have h1:=HD.out.hk
    have h2:reps p=sM p i:=by rw [reps,HPL.out,hin]
    simp only [kJ,gJ,gI,h1,h2,HPS.out,HSE.out]
   have HQV:=Kh (qCS HD.out HPL.out HPN.out)
   have hdf:=hbt.dfa
   rw [hE] at hdf
   have HTR:=Kh (trim_any wr.heap.size wr _ (kJ d p) (cls p) k (Nat.le_refl _) hdf HQV.out)
   obtain ⟨d0,d1,d2,d3⟩:=zR hbt.box
   have hP1:O≠P+1:=by omega
   have hP2:P+1≠O:=by omega
   clear hE hdf hbt hin
   go_wp2_with fail
   refine HTR.out.mono ?_
   rintro e w7 ⟨v7,pv7,rfl,hnew7,hg7⟩
   have hme:kH (kJ d p) k=minD d k:=by rw [HP.out];rfl
   rw [hme] at hnew7
   obtain ⟨o7,hs7,sf7,cf7,sn7,cn7,rfl,ho7,hb7⟩:=hnew7
   have hbO7:=zE HBT0.out.box hg7 (by simp)
   have hbR7:=zE (zE (zE HB2.out HG1.out (by simp)) hgr (fun e=>hP1 (Oj e))) hg7 (by simp)
   have HBO7:=Kh hbO7;have HBR7:=Kh hbR7;have HB7:=Kh hb7;have HG7:=Kh hg7
   obtain ⟨x0,x1,x2,x3⟩:=zR hbO7
   obtain ⟨y0,y1,y2,y3⟩:=zR hbR7
   have fx0:=zD hbO7 0;have fx1:=zD hbO7 1;have fx2:=zD hbO7 2;have fx3:=zD hbO7 3
   have fy0:=zD hbR7 0;have fy1:=zD hbR7 1;have fy2:=zD hbR7 2;have fy3:=zD hbR7 3
   clear hbO7 hbR7 hb7 hg7 hgr d0 d1 d2 d3
   go_wp2
   refine bodyPost_ret (v:=.agg #[.int .i64 (minD d k).letters,.int .i64 (minD d k).start,.slice sf7 (minD d k).final.length cf7,.slice sn7 (minD d k).next.length cn7]) (by simp [results,Tryd.results45,go_sem,y0,y1,y2,y3,hP1,hP2]) rfl ?_
   obtain ⟨hsO,hgO⟩:=pX HBO7.out (.int .i64 (minD d k).letters) (.int .i64 (minD d k).start) (.slice sf7 (minD d k).final.length cf7) (.slice sn7 (minD d k).next.length cn7)
   have hbR8:=zE HBR7.out hgO (fun e=>hP1 (Oj e))
   obtain ⟨hsR,hgR⟩:=pX hbR8 (.int .i64 (minD d k).letters) (.int .i64 (minD d k).start) (.slice sf7 (minD d k).final.length cf7) (.slice sn7 (minD d k).next.length cn7)
   have hO2:O < wr.heap.size:=zQ HBT0.out.box
   refine ⟨_,rfl,⟨o7,hs7,sf7,cf7,sn7,cn7,rfl,by have:=HPE.out;omega,(HB7.out.far hgO HBO7.out (by omega)).far hgR hbR8 (by omega)⟩,?_⟩
   have g1:w.grownBy wr none:=zF HGA.out (zF HG1.out (zG (zW _ _) HGR.out (fun x e=>by have:=Oj e;have:=HOE.out;omega)))
   refine zG (zG (zF g1 HG7.out) hgO (fun x e=>by have:=Oj e;have:=HPE.out;omega)) hgR (fun x e=>by have:=Oj e;have:=HPE.out;omega)
def TMat (B:Nat) (w:World) (v:Value) (ts:List (List Nat)):Prop:=∃ hs,Row B w v hs∧rY B 3 nats w hs ts
theorem TMat.kept {B:Nat} {w w':World} {v:Value} {ts:List (List Nat)} {row:Option Nat} (h:TMat B w v ts) (hg:w.grownBy w' row) (hr:∀ k,row=some k→B≤k):TMat B w' v ts:=by
 obtain ⟨hs,h1,h2⟩:=h
 exact ⟨hs,h1.kept hg hr,h2.kept hg (fun k e=>.inl (hr k e))⟩
theorem TMat.mono {B B':Nat} {w:World} {v:Value} {ts:List (List Nat)} (h:TMat B w v ts) (hB:B≤B'):TMat B' w v ts:=by
 obtain ⟨hs,h1,h2⟩:=h
 exact ⟨hs,h1.mono hB,h2.mono hB⟩
theorem TMat.head {B:Nat} {w:World} {v:Value} {ts:List (List Nat)} (h:TMat B w v ts) (h0:0 < ts.length):∃ b off cap,v=.slice (some ⟨b,off,none⟩) ts.length cap∧ts.length≤cap∧cap≤maxLen∧b < B∧b < w.heap.size ∧
  ∀ i,i < ts.length→∃ a c,w.cell? ⟨b,off+i,none⟩=some (.slice a (ts.getD i []).length c)∧RowT B 3 w (.slice a (ts.getD i []).length c) (nats (ts.getD i [])):=by
 obtain ⟨hs,h1,h2⟩:=h
 have hl:=h2.1
 obtain ⟨b,off,cap,rfl,hb,hc,hm,hra⟩:=h1.some_ (by omega)
 refine ⟨b,off,cap,by rw [hl],by omega,hm,hb,hra.1,fun i hi=>?_⟩
 have h3:=h2.2 i (by omega) hi
 obtain ⟨a,c,e⟩:=h3.shape
 rw [zN] at e
 refine ⟨a,c,?_,?_⟩
 ·rw [hra.2 i (by omega),e,zY hi]
 ·rw [zY hi,← e];exact h3
theorem TMat.shape {B:Nat} {w:World} {v:Value} {ts:List (List Nat)} (h:TMat B w v ts):∃ a c,v=.slice a ts.length c:=by
 obtain ⟨hs,h1,h2⟩:=h
 obtain ⟨a,c,rfl⟩:=h1.shape
 exact ⟨a,c,by rw [h2.1]⟩
def OwnT (base:Nat) (w:World) (v:Value) (n:Nat) (ts:List (List Nat)):Prop:=∃ hs,w.ownsRow base 22 1 v n hs∧rY w.heap.size 3 nats w hs ts∧ts.length=n
theorem OwnT.grow {base n:Nat} {w w':World} {v:Value} {ts:List (List Nat)} (h:OwnT base w v n ts) (hg:w.grownBy w' none):OwnT base w' v n ts:=by
 obtain ⟨hs,h1,h2,h3⟩:=h
 exact ⟨hs,yF h1 hg (by simp),(h2.kept hg (by simp)).mono hg.size,h3⟩
theorem OwnT.tmat {base n:Nat} {w:World} {v:Value} {ts:List (List Nat)} (h:OwnT base w v n ts):TMat w.heap.size w v ts:=by
 obtain ⟨hs,h1,h2,h3⟩:=h
 exact ⟨hs,Row.of_owns h1,h2⟩
theorem OwnT.base {base base' n:Nat} {w:World} {v:Value} {ts:List (List Nat)} (h:OwnT base w v n ts) (hb:base'≤base):OwnT base' w v n ts:=by
 obtain ⟨hs,h1,h2,h3⟩:=h
 exact ⟨hs,yJ h1 hb,h2,h3⟩
theorem OwnT.nil (base:Nat) (w:World):OwnT base w (.slice none 0 0) 0 []:=⟨[],World.ownsRow_nil _ _ _ _,rY.nil,rfl⟩
theorem OwnT.push {base n:Nat} {w w':World} {v v':Value} {ts:List (List Nat)} {hs:List Value} {u:Value} {l:List Nat} (h1:w.ownsRow base 22 1 v n hs) (h2:rY w.heap.size 3 nats w hs ts) (h3:ts.length=n) (hu:RowT w.heap.size 3 w u (nats l))
  (ho:w'.ownsRow base 22 1 v' (n+1) (hs ++ [u])) (hg:w.grownBy w' v.ownBlock):OwnT base w' v' (n+1) (ts ++ [l]):=by
 refine ⟨_,ho,?_,by simp [h3]⟩
 exact ((h2.snoc hu).kept hg (fun k e=>.inr (tU h1 (by decide) k e))).mono hg.size
def kR (m:DfaV) (n k:Nat):List (List Nat):=(List.range k).map fun a=>(List.range n).map fun q=>nx m q a
theorem tW (m:DfaV) (n k:Nat):(kR m n k).length=k:=by simp [kR]
def colD (m:DfaV) (n a:Nat):List Nat:=(List.range n).map fun q=>nx m q a
theorem kU (m:DfaV) (n a:Nat):(colD m n a).length=n:=by simp [colD]
theorem colD_take {m:DfaV} {n a q:Nat} (hq:q < n):(colD m n a).take (q+1)=(colD m n a).take q ++ [nx m q a]:=by
 rw [yG (d:=0) (by rw [kU];exact hq),zY (by rw [kU];exact hq)];simp [colD]
theorem gensD_take {m:DfaV} {n k a:Nat} (ha:a < k):(kR m n k).take (a+1)=(kR m n k).take a ++ [colD m n a]:=by
 rw [yG (d:=[]) (by rw [tW];exact ha),zY (by rw [tW];exact ha)];simp [kR,colD]
def eZ (w:World) (ts:List (List Nat)) (e:Ending) (w':World):Prop:=∃ (sa:Option Addr) (sc:Nat),e=.returned (.slice sa ts.length sc)∧OwnT w.heap.size w' (.slice sa ts.length sc) ts.length ts∧w.grownBy w' none
set_option maxRecDepth 100000 in
set_option maxHeartbeats 1000000 in
theorem ofDFA_any (B:Nat) (w:World) (v:Value) (d:DfaV) (n k:Nat) (hB:B≤w.heap.size) (h:mG B w v d) (hd:VD d n k) :
  Calls Tryd.prog 47 #[v] w (eZ w (kR d n k)):=by
 obtain ⟨fb,fo,fc,b,off,cap,RB,RO,RC,rfl,hat⟩:=h.at hd
 have hn1:=hd.n1
 have hn512:=hd.n512
 have hk6:=hd.k6
 have hk1:=hd.k1
 have hcp:=hat.cap.1
 have hcp2:=hat.cap.2
 have hmx2:cap≤9223372036854775807:=by unfold maxLen at hcp2;omega
 obtain ⟨wA,hWA⟩:∃ wA,wA=w.alloc (.cells #[.int .i64 (k:Int),.int .i64 (st0 d:Int),.slice (some ⟨fb,fo,none⟩) n fc,.slice (some ⟨b,off,none⟩) n cap] 28):=⟨_,rfl⟩
 have hbox:wA.heap[w.heap.size]?=some (.cells #[.int .i64 (k:Int),.int .i64 (st0 d:Int),.slice (some ⟨fb,fo,none⟩) n fc,.slice (some ⟨b,off,none⟩) n cap] 28 (0,0)):=by rw [hWA];exact heap_alloc_new w _
 have hgA:w.grownBy wA none:=by rw [hWA];exact Ga w _ none
 have hzA:wA.heap.size=w.heap.size+1:=by rw [hWA,zO]
 obtain ⟨P,hP⟩:∃ P,P=w.heap.size:=⟨_,rfl⟩
 have HPE:=Kh hP
 rw [← hP] at hbox hB hzA
 have HBX:=Kh hbox;have HGA:=Kh hgA;have HWA:=Kh hWA;have HAT:=Kh (hat.kept hgA (by simp));have HD:=Kh hd
 unfold dAgg
 clear hbox hgA hWA hat hd h hcp2
 go_enter Tryd.func47,Tryd.ntmps47
 go_upto_region 2 with fail
 rw [← HWA.out,← HPE.out]
 clear hP
 go_wp2
 go_loopg [3,4] k (fun gh v3 i wr=>∃ (a:Nat) (sa:Option Addr) (sc:Nat),gh+a=k∧i=.int .i64 a∧v3=.slice sa a sc∧OwnT (P+1) wr (.slice sa a sc) a ((kR d n k).take a)∧wA.grownBy wr none)
 case atStart=>exact ⟨0,none,0,rfl,rfl,rfl,by simpa using OwnT.nil _ _,zW _ _⟩
 case round =>
  obtain ⟨a,sa,sc,hg,rfl,rfl,hown,hgr⟩:=hrel
  have HG:=Kh hg;have HOWN:=Kh hown;have HGR:=Kh hgr
  obtain ⟨d0,d1,d2,d3⟩:=zR (zE HBX.out hgr (by simp))
  clear hg hown
  by_cases ha:a < k
  ·have ha':(a:Int) < k:=by omega
   obtain ⟨wo,rfl⟩:∃ wo:World,wo=wr:=⟨_,rfl⟩
   clear hgr
   go_wp2
   go_loopg [5,6,16] n (fun gh ov a6 i wr=>∃ (q:Nat) (sr:Option Addr) (cr:Nat),gh+q=n∧i=.int .i64 q∧ov=.slice sr q cr∧wr.ownsRow wo.heap.size 3 1 (.slice sr q cr) q (nats ((colD d n a).take q))∧wo.grownBy wr none)
   case atStart=>exact ⟨0,none,0,rfl,rfl,rfl,by simpa [nats] using World.ownsRow_nil _ _ _ _,zW _ _⟩
   case round =>
    obtain ⟨q,sr,cr,hg,rfl,rfl,hown,hgr⟩:=hrel
    have HGQ:=Kh hg;have HOWR:=Kh hown;have HGRQ:=Kh hgr
    clear hg hown d0 d1 d2 d3
    obtain ⟨d0,d1,d2,d3⟩:=zR (zE HBX.out (zF HGR.out hgr) (by simp))
    by_cases hq:q < n
    ·have hq':(q:Int) < n:=by omega
     have hA:=HAT.out.kept (zF HGR.out hgr) (by simp)
     have ch:=hA.hd q hq
     have ce:=hA.el q a hq ha
     have hrc:=(hA.rcap q hq).1
     have HCT:Hid ((colD d n a).take (q+1)=(colD d n a).take q ++ [nx d q a]):=Kh (colD_take hq)
     obtain ⟨s,hs⟩:∃ s,s=nx d q a:=⟨_,rfl⟩
     rw [← hs] at ce HCT
     have hgs:=hgr.size
     clear hA hs hgr
     go_wp2_with (first|(at_builtin;refine app1 rfl _ _ _ rfl yC wo.heap.size _ q (nats ((colD d n a).take q)) rfl HOWR.out _ rfl rfl ?c1 ?c2 ?c3 ?_)|fail)
     case c1=>unfold maxLen;omega
     case c2=>omega
     case c3=>exact hgs
     intro sa' sc' w6 hown6 hg6 hlt6
     have HO6:=Kh hown6;have HG6:=Kh hg6
     clear hown6 hg6
     go_wp2
     go_roundg (n - (q+1))
     case measure=>have:=HGQ.out;omega
     case rel =>
      refine ⟨q+1,sa',sc',by omega,by go_num,rfl,?_,zG HGRQ.out HG6.out (fun q e=>(HOWR.out.lt q e).1)⟩
      rw [HCT.out,wE]
      exact HO6.out
    ·have hqn:q=n:=by have:=HGQ.out;omega
     have hct:(colD d n a).take q=colD d n a:=by have h9:=kU d n a;rw [hqn];exact List.take_of_length_le (by omega)
     rw [hct] at HOWR
     have hot:=HOWN.out.grow hgr
     obtain ⟨hs,ho1,ho2,ho3⟩:=hot
     have hrow:=RowT.of_owns HOWR.out
     have HR:=Kh hrow;have HO1:=Kh ho1;have HO2:=Kh ho2;have HO3:=Kh ho3
     have hzz:=hgr.size
     have hPw:P+1≤wr.heap.size:=by have:=HGR.out.size;omega
     clear hqn hct hgr hrow ho1 ho2 ho3
     go_wp2_with (first|(at_builtin;refine app1 rfl _ _ _ rfl vO (P+1) _ a hs rfl HO1.out _ rfl rfl ?c1 ?c2 ?c3 ?_)|fail)
     case c1=>unfold maxLen;omega
     case c2=>omega
     case c3=>exact hPw
     intro sa' sc' w6 hown6 hg6 hlt6
     have HO6:Hid (OwnT (P+1) w6 (.slice sa' (a+1) sc') (a+1) ((kR d n k).take (a+1))):=Kh (by
      rw [gensD_take ha]
      exact OwnT.push HO1.out HO2.out HO3.out HR.out hown6 hg6)
     have HG6:Hid (wA.grownBy w6 none):=Kh (zG (zF HGR.out HGRQ.out) hg6 (fun x e=>by have:=(HO1.out.lt x e).1;omega))
     clear hown6 hg6
     go_wp2
     go_roundg (k - (a+1))
     case measure=>have:=HG.out;omega
     case rel=>exact ⟨a+1,sa',sc',by omega,by go_num,rfl,HO6.out,HG6.out⟩
  ·have hak:a=k:=by have:=HG.out;omega
   have hgl:=tW d n k
   have HE:Hid ((kR d n k).take a=kR d n k∧(kR d n k).length=a):=Kh ⟨List.take_of_length_le (by omega),by rw [hgl,hak]⟩
   clear hak hgr hgl
   go_wp2
   go_ret
   rw [HE.out.1] at HOWN
   refine ⟨sa,sc,by rw [HE.out.2];rfl,?_,zF HGA.out HGR.out⟩
   rw [HE.out.2]
   exact HOWN.out.base (by have:=HPE.out;omega)
def vQ (f g:List Nat):List Nat:=f.map fun x=>g.getD x 0
theorem rU (f g:List Nat):(vQ f g).length=f.length:=by simp [vQ]
theorem compT_get {f g:List Nat} {i:Nat} (h:i < f.length):(vQ f g).getD i 0=g.getD (f.getD i 0) 0:=by rw [vQ,uF (x:=0) h]
def IsT (n:Nat) (f:List Nat):Prop:=f.length=n∧∀ x∈f,x < n
theorem IsT.get {n:Nat} {f:List Nat} (h:IsT n f) {i:Nat} (hi:i < n):f.getD i 0 < n:=by
 rw [zY (by rw [h.1];exact hi)];exact h.2 _ (List.getElem_mem _)
theorem eP {n:Nat} {f g:List Nat} (hf:IsT n f) (hg:IsT n g):IsT n (vQ f g):=by
 refine ⟨by rw [rU,hf.1],fun x hx=>?_⟩
 obtain ⟨y,hy,rfl⟩:=List.mem_map.1 hx
 exact hg.get (hf.2 y hy)
set_option maxHeartbeats 800000 in
theorem discrete_any (w:World) (n:Nat) (hn:n≤100000):Calls Tryd.prog 116 #[.int .i64 (n:Int)] w (NumOk w (List.range n)):=by
 go_enter Tryd.func116,Tryd.ntmps116
 go_wp2_with (first|(at_make;refine kB rfl _ _ _ rfl yC rfl .i64 .i64 _ _ n rfl rfl rfl rfl ?b1 ?b2 ?_;(case b1=>omega);(case b2=>(unfold maxLen;omega));intro w2 harr hg2 hlt2)|fail)
 have HA2:=Kh harr;have HG2:=Kh hg2
 clear harr hg2
 go_loopg [4,9] n (fun gh a4 i wr=>∃ k:Nat,gh+k=n∧i=.int .i64 k∧Arr wr w.heap.size 3 (nats (uT (List.range n) k))∧w.grownBy wr none)
 case atStart=>exact ⟨0,rfl,rfl,by rw [pG,List.length_range,wG];exact HA2.out,HG2.out⟩
 case round =>
  clear HA2 HG2
  obtain ⟨k,hg,rfl,harr,hgr⟩:=hrel
  have HG:=Kh hg;have HA:=Kh harr;have HGR:=Kh hgr
  clear hg hgr
  by_cases hk:k < n
  ·have hk':(k:Int) < n:=by omega
   have cgk:=harr.nat k (by rw [xI (by simp;omega)];simpa using hk)
   have fgk:=harr.frozen k
   have hset:=oP (l:=List.range n) (k:=k) (by simpa using hk)
   rw [show (List.range n).getD k 0=k from by rw [zY (by simpa using hk)];simp] at hset
   have HS:=Kh hset
   clear hset harr
   go_wp2
   go_roundg (n - (k+1))
   case measure=>have:=HG.out;omega
   case rel =>
    refine ⟨k+1,by omega,by go_num,?_,zG HGR.out (zH wr ⟨w.heap.size,k,none⟩ _) (fun q e=>by have h7:w.heap.size=q:=Oj e;omega)⟩
    rw [← HS.out]
    exact HA.out.nat_set k (by rw [xI (by simp;omega)];simpa using hk) k
  ·have hkn:k=n:=by have:=HG.out;omega
   have HE:Hid (uT (List.range n) k=List.range n):=Kh (by have:=oQ (List.range n);rw [List.length_range] at this;rw [hkn];exact this)
   clear hkn harr
   go_wp2
   go_ret
   refine ⟨w.heap.size,by rw [List.length_range];rfl,Nat.le_refl _,?_,HGR.out⟩
   rw [← HE.out];exact HA.out
set_option maxHeartbeats 800000 in
theorem compose_any (B C:Nat) (w:World) (va vb:Value) (f g:List Nat) (n:Nat) (hB:B≤w.heap.size) (hC:C≤w.heap.size) (ha:Row B w va (nats f)) (hb:Row C w vb (nats g)) (hf:IsT n f) (hg:IsT n g) (hn:n≤100000) :
  Calls Tryd.prog 117 #[va,vb] w (NumOk w (vQ f g)):=by
 obtain ⟨va',vc,rfl⟩:=ha.shape
 obtain ⟨vb',vd,rfl⟩:=hb.shape
 have hbl:=hb.len_le
 rw [zN,hf.1] at ha ⊢
 rw [zN,hg.1] at hb ⊢
 have HA:=Kh ha;have HB:=Kh hb;have HF:=Kh hf;have HGT:=Kh hg
 clear ha hb hf hg hbl
 go_enter Tryd.func117,Tryd.ntmps117
 go_wp2_with (first|(at_make;refine kB rfl _ _ _ rfl yC rfl .i64 .i64 _ _ n rfl rfl rfl rfl ?b1 ?b2 ?_;(case b1=>omega);(case b2=>(unfold maxLen;omega));intro w2 harr hg2 hlt2)|fail)
 have HA2:=Kh harr;have HG2:=Kh hg2
 clear harr hg2
 have hcl:(vQ f g).length=n:=by rw [rU,HF.out.1]
 go_loopg [6,7,13] n (fun gh a6 a7 i wr=>∃ k:Nat,gh+k=n∧i=.int .i64 k∧Arr wr w.heap.size 3 (nats (uT (vQ f g) k))∧w.grownBy wr none)
 case atStart=>exact ⟨0,rfl,rfl,by rw [pG,hcl,wG];exact HA2.out,HG2.out⟩
 case round =>
  clear HA2 HG2
  obtain ⟨k,hg,rfl,harr,hgr⟩:=hrel
  have HG:=Kh hg;have HAR:=Kh harr;have HGR:=Kh hgr
  clear hg
  by_cases hk:k < n
  ·have hk':(k:Int) < n:=by omega
   obtain ⟨ib,io,ic,e,_,hc1,hc2,hra⟩:=(HA.out.kept hgr (by simp)).some_ (by rw [zN,HF.out.1];omega)
   simp only [Value.slice.injEq] at e
   obtain ⟨rfl,-,rfl⟩:=e
   obtain ⟨jb,jo,jc,e,_,hd1,hd2,hrb⟩:=(HB.out.kept hgr (by simp)).some_ (by rw [zN,HGT.out.1];omega)
   simp only [Value.slice.injEq] at e
   obtain ⟨rfl,-,rfl⟩:=e
   have ca:=hra.nat k (by rw [HF.out.1];exact hk)
   have hx:=HF.out.get hk
   have cb:=hrb.nat (f.getD k 0) (by rw [HGT.out.1];exact hx)
   have cgk:=harr.nat k (by rw [xI (by omega)];omega)
   have fgk:=harr.frozen k
   have hset:=oP (l:=vQ f g) (k:=k) (by omega)
   rw [compT_get (by rw [HF.out.1];exact hk)] at hset
   obtain ⟨x,hxe⟩:∃ x,x=f.getD k 0:=⟨_,rfl⟩
   rw [← hxe] at ca cb hx hset
   obtain ⟨y,hye⟩:∃ y,y=g.getD x 0:=⟨_,rfl⟩
   rw [← hye] at cb hset
   have hx':(x:Int) < n:=by omega
   have HS:=Kh hset
   clear hset harr hgr hra hrb hxe hye
   go_wp2
   go_roundg (n - (k+1))
   case measure=>have:=HG.out;omega
   case rel =>
    refine ⟨k+1,by omega,by go_num,?_,zG HGR.out (zH wr ⟨w.heap.size,k,none⟩ _) (fun q e=>by have h7:w.heap.size=q:=Oj e;omega)⟩
    rw [← HS.out]
    exact HAR.out.nat_set k (by rw [xI (by omega)];omega) y
  ·have hkn:k=n:=by have:=HG.out;omega
   have HE:Hid (uT (vQ f g) k=vQ f g):=Kh (by rw [hkn,← hcl];exact oQ _)
   clear hkn harr hgr
   go_wp2
   go_ret
   refine ⟨w.heap.size,by rw [hcl];rfl,Nat.le_refl _,?_,HGR.out⟩
   rw [← HE.out];exact HAR.out
def mW (ts:List (List Nat)) (f:List Nat):Int:=if f∈ts then (ts.idxOf f:Int) else -1
theorem findT_at {ts:List (List Nat)} {f:List Nat} {i:Nat} (hi:i < ts.length) (h:ts.getD i []=f) (hno:∀ j,j < i→ts.getD j []≠f):mW ts f=i:=by
 have hm:f∈ts:=by rw [← h,zY hi];exact List.getElem_mem _
 rw [mW,if_pos hm]
 have h1:=List.idxOf_lt_length_of_mem hm
 have h2:=List.getElem_idxOf h1
 have h3:¬ ts.idxOf f < i:=fun hlt=>hno _ hlt (by rw [zY h1];exact h2)
 have h4:¬ i < ts.idxOf f:=fun hlt=>by
  have h5:=List.not_of_lt_findIdx (xs:=ts) (p:=(· == f)) (show i < ts.findIdx (· == f) from hlt)
  rw [zY hi] at h
  simp [h] at h5
 omega
theorem findT_none {ts:List (List Nat)} {f:List Nat} (hno:∀ j,j < ts.length→ts.getD j []≠f):mW ts f = -1:=by
 rw [mW,if_neg]
 intro hm
 obtain ⟨i,hi,e⟩:=List.getElem_of_mem hm
 exact hno i hi (by rw [zY hi];exact e)
set_option maxHeartbeats 800000 in
theorem eI (B C:Nat) (w:World) (va vb:Value) (ts:List (List Nat)) (f:List Nat) (hts:TMat B w va ts) (hb:Row C w vb (nats f)) :
  Calls Tryd.prog 86 #[va,vb] w fun e w'=>e=.returned (.int .i64 (mW ts f))∧∃ m,w'=w.drewN m:=by
 obtain ⟨ta,tc,rfl⟩:=hts.shape
 have HT:=Kh hts;have HB:=Kh hb
 have htl:ts.length≤9223372036854775807:=by
  obtain ⟨hs,h1,h2⟩:=hts
  have:=h1.len_le
  rw [h2.1] at this
  unfold maxLen at this;omega
 clear hts hb
 go_enter Tryd.func86,Tryd.ntmps86
 go_wp2
 go_loopg [5,8] ts.length (fun gh a5 i wr=>∃ k:Nat,gh+k=ts.length∧i=.int .i64 k∧Hid (∀ j,j < k→ts.getD j []≠f)∧∃ m,wr=w.drewN m)
 case atStart=>exact ⟨0,rfl,rfl,Kh (fun j hj=>by omega),0,rfl⟩
 case round =>
  obtain ⟨k,hg,rfl,hno,m,rfl⟩:=hrel
  have HG:=Kh hg
  clear hg
  by_cases hk:k < ts.length
  ·have hk':(k:Int) < ts.length:=by omega
   have hts2:=HT.out.kept (zJ w m none) (by simp)
   obtain ⟨b,off,cap,e,hc1,hc2,_,_,hall⟩:=hts2.head (by omega)
   simp only [Value.slice.injEq] at e
   obtain ⟨rfl,-,rfl⟩:=e
   obtain ⟨a,c,ch,hrow⟩:=hall k hk
   have hmx:tc≤9223372036854775807:=by unfold maxLen at hc2;omega
   have HSA:=lL B C (w.drewN m) (.slice a (ts.getD k []).length c) vb ((ts.getD k []).map fun (x:Nat)=>(x:Int)) (f.map fun (x:Nat)=>(x:Int))
    (by rw [← tV];exact hrow.row) (by rw [← tV];exact HB.out.kept (zJ w m none) (by simp))
   rw [bJ] at HSA
   obtain ⟨t,ht⟩:∃ t,t=ts.getD k []:=⟨_,rfl⟩
   rw [← ht] at ch HSA
   have HSA:=Kh HSA;have HTT:=Kh ht
   clear ht hts2 hall hrow
   by_cases he:t=f
   ·rw [decide_eq_true he] at HSA
    have HF:Hid (mW ts f=k):=Kh (findT_at hk (HTT.out.symm.trans he) hno.out)
    clear he
    go_wp2_with fail
    refine HSA.out.mono ?_
    rintro e w2 ⟨rfl,m2,rfl⟩
    go_wp2
    go_ret
    exact ⟨yH HF.out.symm,m+m2,rfl⟩
   ·rw [decide_eq_false he] at HSA
    have HNO:Hid (∀ j,j < k+1→ts.getD j []≠f):=Kh (fun j hj=>by
     rcases Nat.lt_succ_iff_lt_or_eq.1 hj with hj|rfl
     ·exact hno.out j hj
     ·rw [← HTT.out];exact he)
    clear he
    go_wp2_with fail
    refine HSA.out.mono ?_
    rintro e w2 ⟨rfl,m2,rfl⟩
    go_wp2
    go_roundg (ts.length - (k+1))
    case measure=>have:=HG.out;omega
    case rel=>exact ⟨k+1,by omega,by go_num,HNO,m+m2,rfl⟩
  ·have HF:Hid (mW ts f = -1):=Kh (findT_none (fun j hj=>hno.out j (by have:=HG.out;omega)))
   go_wp2
   go_ret
   exact ⟨yH HF.out.symm,m,rfl⟩
set_option maxRecDepth 100000 in
set_option maxHeartbeats 800000 in
theorem copyT_any (B:Nat) (w:World) (v:Value) (ts:List (List Nat)) (hB:B≤w.heap.size) (h:TMat B w v ts) (hl:ts.length≤4096) (hr:∀ t∈ts,t.length≤4096) :
  Calls Tryd.prog 115 #[v] w (eZ w ts):=by
 obtain ⟨ta,tc,rfl⟩:=h.shape
 have HT:=Kh h;have HR:=Kh hr
 clear h hr
 go_enter Tryd.func115,Tryd.ntmps115
 go_wp2
 go_loopg [3,5,8] ts.length (fun gh v3 a5 i wr=>∃ (k:Nat) (sa:Option Addr) (sc:Nat),gh+k=ts.length∧i=.int .i64 k∧v3=.slice sa k sc∧OwnT w.heap.size wr (.slice sa k sc) k (ts.take k)∧w.grownBy wr none)
 case atStart=>exact ⟨0,none,0,rfl,rfl,rfl,by simpa using OwnT.nil _ _,zW _ _⟩
 case round =>
  obtain ⟨k,sa,sc,hg,rfl,rfl,hown,hgr⟩:=hrel
  have HG:=Kh hg;have HOWN:=Kh hown;have HGR:=Kh hgr
  clear hg
  by_cases hk:k < ts.length
  ·have hk':(k:Int) < ts.length:=by omega
   have hts2:=HT.out.kept hgr (by simp)
   obtain ⟨b,off,cap,e,hc1,hc2,_,_,hall⟩:=hts2.head (by omega)
   simp only [Value.slice.injEq] at e
   obtain ⟨rfl,-,rfl⟩:=e
   obtain ⟨a,c,ch,hrow⟩:=hall k hk
   have hmx:tc≤9223372036854775807:=by unfold maxLen at hc2;omega
   have hst:Hid (ts.take (k+1)=ts.take k ++ [ts.getD k []]):=Kh (yG hk)
   have hlt:(ts.getD k []).length≤4096:=HR.out _ (by rw [zY hk];exact List.getElem_mem _)
   obtain ⟨t,ht⟩:∃ t,t=ts.getD k []:=⟨_,rfl⟩
   rw [← ht] at ch hrow hst hlt
   have HROW:=Kh hrow
   have hzz:=hgr.size
   clear ht hts2 hall hrow hgr hown
   go_wp2_with (first|(at_builtin;refine appR rfl _ _ _ rfl yC wr.heap.size (.slice (some ⟨wr.heap.size,0,none⟩) 0 0) 0 [] rfl (yQ (heap_alloc_new wr _) (Nat.le_refl _)) _ (nats t) rfl ⟨_,HROW.out.row.kept (Ga wr _ none) (by simp)⟩ (uE _) t.length (by simp [nats]) (by unfold maxLen;omega) (by omega) (by rw [zO];omega) ?_;intro sr cr w6 hown6 hg6;(have HO6:=Kh hown6);(have HG6:Hid (wr.grownBy w6 none):=Kh (zG (Ga wr (.cells #[] 3) none) hg6 (fun x e=>by have:wr.heap.size=x:=Oj e;omega)));clear hown6 hg6;obtain ⟨hs,ho1,ho2,ho3⟩:=HOWN.out.grow HG6.out;(have HO1:=Kh ho1);(have HO2:=Kh ho2);(have HO3:=Kh ho3);(have hz6:=HG6.out.size);clear ho1 ho2 ho3)|(at_builtin;refine app1 rfl _ _ _ rfl vO w.heap.size _ k hs rfl HO1.out _ rfl rfl ?c1 ?c2 ?c3 ?_)|fail)
   case c1=>unfold maxLen;omega
   case c2=>omega
   case c3=>omega
   intro sa' sc' w8 hown8 hg8 hlt8
   have HO8:Hid (OwnT w.heap.size w8 (.slice sa' (k+1) sc') (k+1) (ts.take (k+1))):=Kh (by
    rw [hst.out]
    exact OwnT.push HO1.out HO2.out HO3.out (RowT.of_owns HO6.out) hown8 hg8)
   have HG8:Hid (w.grownBy w8 none):=Kh (zG (zF HGR.out HG6.out) hg8 (fun x e=>(HO1.out.lt x e).1))
   clear hown8 hg8
   go_wp2
   go_roundg (ts.length - (k+1))
   case measure=>have:=HG.out;omega
   case rel=>exact ⟨k+1,sa',sc',by omega,by go_num,rfl,HO8.out,HG8.out⟩
  ·have hkn:k=ts.length:=by have:=HG.out;omega
   have HE:Hid (ts.take k=ts):=Kh (List.take_of_length_le (by omega))
   have HKN:=Kh hkn
   rw [HE.out] at HOWN
   clear hkn hgr hown
   go_wp2
   go_ret
   exact ⟨sa,sc,by rw [← HKN.out];rfl,by rw [← HKN.out];exact HOWN.out,HGR.out⟩
set_option maxHeartbeats 800000 in
theorem validT_any (B:Nat) (w:World) (v:Value) (f:List Nat) (n:Nat) (h:Row B w v (nats f)) (hf:IsT n f) (h1:1≤n) (h32:n≤32) :
  Calls Tryd.prog 119 #[v] w fun e w'=>e=.returned (.bool true)∧w=w':=by
 obtain ⟨b,off,cap,rfl,_,hc1,hc2,hra⟩:=h.some_ (by rw [zN,hf.1];omega)
 have hmx:cap≤9223372036854775807:=by unfold maxLen at hc2;omega
 rw [zN,hf.1] at hc1 ⊢
 have HRA:=Kh hra;have HF:=Kh hf
 clear h hf hra hc2
 go_enter Tryd.func119,Tryd.ntmps119
 go_wp2
 go_loopg [15] n (fun gh i wr=>∃ k:Nat,gh+k=n∧i=.int .i64 k∧w=wr)
 case atStart=>exact ⟨0,rfl,rfl,rfl⟩
 case round =>
  obtain ⟨k,hg,rfl,rfl⟩:=hrel
  have HG:=Kh hg
  clear hg
  by_cases hk:k < n
  ·have ck:=HRA.out.nat k (by rw [HF.out.1];exact hk)
   have hx:=HF.out.get hk
   obtain ⟨x,hxe⟩:∃ x,x=f.getD k 0:=⟨_,rfl⟩
   rw [← hxe] at ck hx
   have hx':(x:Int) < n:=by omega
   clear hxe
   go_wp2
   go_roundg (n - (k+1))
   case measure=>have:=HG.out;omega
   case rel=>exact ⟨k+1,by omega,by go_num,rfl⟩
  ·go_wp2
   go_ret
   exact ⟨rfl,rfl⟩
set_option maxHeartbeats 800000 in
theorem mayGens_any (B:Nat) (w:World) (v:Value) (ts:List (List Nat)) (n:Nat) (h:TMat B w v ts) (hts:∀ t∈ts,IsT n t) (h1:1≤n) (h32:n≤32) (hl1:1≤ts.length) (hl6:ts.length≤6) :
  Calls Tryd.prog 114 #[v] w fun e w'=>e=.returned (.bool true)∧w=w':=by
 obtain ⟨b,off,cap,rfl,hc1,hc2,_,_,hall⟩:=h.head (by omega)
 have hmx:cap≤9223372036854775807:=by unfold maxLen at hc2;omega
 have H0:=hall 0 (by omega)
 obtain ⟨a0,c0,ch0,hrow0⟩:=H0
 have hl0:(ts.getD 0 []).length=n:=(hts _ (by rw [zY (by omega)];exact List.getElem_mem _)).1
 rw [hl0] at ch0
 rw [Nat.add_zero] at ch0
 have HALL:=Kh hall;have HTS:=Kh hts
 obtain ⟨L,hL⟩:∃ L,L=ts.length:=⟨_,rfl⟩
 rw [← hL] at hc1 hl1 hl6 HALL ⊢
 have HLE:=Kh hL
 clear h hts hall hc2 hrow0 hl0 hL
 go_enter Tryd.func114,Tryd.ntmps114
 go_wp2
 go_loopg [15] L (fun gh i wr=>∃ k:Nat,gh+k=L∧i=.int .i64 k∧w=wr)
 case atStart=>exact ⟨0,rfl,rfl,rfl⟩
 case round =>
  obtain ⟨k,hg,rfl,rfl⟩:=hrel
  have HG:=Kh hg
  clear hg
  by_cases hk:k < L
  ·obtain ⟨a,c,ch,hrow⟩:=HALL.out k hk
   have hit:IsT n (ts.getD k []):=HTS.out _ (by rw [zY (by have:=HLE.out;omega)];exact List.getElem_mem _)
   have hlk:=hit.1
   have HV:=Kh (validT_any B w _ _ n hrow.row hit h1 h32)
   rw [hlk] at ch HV
   have e1:((n:Int) != (n:Int))=false:=by simp
   clear hrow hit hlk
   go_wp2_with fail
   refine HV.out.mono ?_
   rintro e w1 ⟨rfl,rfl⟩
   go_wp2
   go_roundg (L - (k+1))
   case measure=>have:=HG.out;omega
   case rel=>exact ⟨k+1,by omega,by go_num,rfl⟩
  ·go_wp2
   go_ret
   exact ⟨rfl,rfl⟩
set_option maxHeartbeats 400000 in
theorem iK (w:World) (a:Nat) (ha:a < 26):Calls Tryd.prog 106 #[.int .i64 (a:Int)] w fun e w'=>e=.returned (.string (strOfNums [97+(a:Int)]))∧w.grownBy w' none:=by
 have hby:IntKind.u8.wrap (97+(a:Int))=97+(a:Int):=IntWalk.u8_in _ (by omega)
 obtain ⟨X,hX⟩:∃ X,X=strOfNums [97+(a:Int)]:=⟨_,rfl⟩
 have hcv:∀ (W:World) (g:Nat),W.cell? ⟨g,0,none⟩=some (.int .u8 (97+(a:Int)))→(convert 89 9 (.slice (some ⟨g,0,none⟩) 1 1)).run Tryd.prog W=.ok (.string X) W:=fun W g h=>by rw [hX];exact mL 89 5 Tryd.underlying89 Tryd.underlying5 9 Tryd.underlying9 h
 rw [← hX]
 clear hX
 go_enter Tryd.func106,Tryd.ntmps106
 go_wp2
 go_ret
 exact ⟨rfl,Ga _ _ none⟩
def RowX (X:Nat→Prop) (e:TypeId) (w:World) (v:Value) (xs:List Value):Prop:=RowT w.heap.size e w v xs∧∀ k,v.ownBlock=some k→X k
def wY (X:Nat→Prop) (w w':World):Prop:=∀ k,X k→w'.heap[k]?=w.heap[k]?
theorem wY.trans {X:Nat→Prop} {a b c:World} (h:wY X a b) (h':wY X b c):wY X a c:=fun k hk=>(h' k hk).trans (h k hk)
theorem wY.refl (X:Nat→Prop) (w:World):wY X w w:=fun _ _=>rfl
theorem wY.cell {X:Nat→Prop} {w w':World} (h:wY X w w') {b i:Nat} (hb:X b) {u:Value} (hc:w.cell? ⟨b,i,none⟩=some u):w'.cell? ⟨b,i,none⟩=some u:=(World.cell?_of_block (h b hb)).trans hc
theorem RowX.kept {X:Nat→Prop} {e:TypeId} {w w':World} {v:Value} {xs:List Value} (h:RowX X e w v xs) (hk:wY X w w') (hs:w.heap.size≤w'.heap.size):RowX X e w' v xs:=by
 refine ⟨?_,h.2⟩
 rcases h.1 with h1|⟨b,off,cap,cur,m,h1,h2,h3,h4,h5,h6⟩
 ·exact .inl h1
 ·exact .inr ⟨b,off,cap,cur,m,h1,by omega,h3,h4,(hk b (h.2 b (by rw [h1];rfl))).trans h5,h6⟩
theorem RowX.mono {X X':Nat→Prop} {e:TypeId} {w:World} {v:Value} {xs:List Value} (h:RowX X e w v xs) (hX:∀ k,X k→X' k):RowX X' e w v xs:=⟨h.1,fun k hk=>hX k (h.2 k hk)⟩
theorem RowX.row {X:Nat→Prop} {e:TypeId} {w:World} {v:Value} {xs:List Value} (h:RowX X e w v xs):Row w.heap.size w v xs:=h.1.row
theorem RowX.of_owns {X:Nat→Prop} {w:World} {base e n:Nat} {v:Value} {xs:List Value} (h:w.ownsRow base e 1 v n xs) (hX:∀ k,v.ownBlock=some k→X k):RowX X e w v xs:=⟨RowT.of_owns h,hX⟩
def tY {α:Type} (X:Nat→Prop) (e:TypeId) (f:α→List Value) (w:World) (hs:List Value) (ts:List α):Prop :=
 hs.length=ts.length∧∀ i (h:i < hs.length) (h':i < ts.length),RowX X e w hs[i] (f ts[i])
section
variable {α:Type} {X X':Nat→Prop} {e:TypeId} {f:α→List Value} {w w':World} {hs:List Value} {ts:List α}
theorem tY.nil:tY X e f w [] []:=⟨rfl,fun i h=>by simp at h⟩
theorem tY.kept (h:tY X e f w hs ts) (hk:wY X w w') (hs':w.heap.size≤w'.heap.size):tY X e f w' hs ts:=⟨h.1,fun i h1 h2=>(h.2 i h1 h2).kept hk hs'⟩
theorem tY.mono (h:tY X e f w hs ts) (hX:∀ k,X k→X' k):tY X' e f w hs ts:=⟨h.1,fun i h1 h2=>(h.2 i h1 h2).mono hX⟩
theorem tY.snoc {v:Value} {t:α} (h:tY X e f w hs ts) (hv:RowX X e w v (f t)):tY X e f w (hs ++ [v]) (ts ++ [t]):=by
 refine ⟨by simp [h.1],fun i h1 h2=>?_⟩
 by_cases hi:i < hs.length
 ·rw [List.getElem_append_left hi]
  simp only [List.getElem_append_left (show i < ts.length by rw [← h.1];exact hi)]
  exact h.2 i hi _
 ·have:i=hs.length:=by simp at h1;omega
  subst this
  rw [List.getElem_append_right (Nat.le_refl _)]
  simp only [List.getElem_append_right (show ts.length≤hs.length by rw [h.1];exact Nat.le_refl _)]
  simpa [h.1] using hv
end
structure EMem (X:Nat→Prop) (W:World) (rs:List RowS):Prop where
 own:∀ r∈rs,W.ownsRow r.base r.e r.sz r.v r.n r.xs
 apart:rs.Pairwise (fun r s=>∀ k,r.v.ownBlock=some k→s.v.ownBlock≠some k)
 offX:∀ r∈rs,∀ k,r.v.ownBlock=some k→¬ X k
 lt:∀ k,X k→k < W.heap.size
def rS (rs:List RowS) (k:Nat):Prop:=∃ r∈rs,r.v.ownBlock=some k
section
variable {X:Nat→Prop} {W W':World} {rs rs':List RowS}
theorem EMem.many (h:EMem X W rs) (F:Nat→Prop) (hF:∀ k,rS rs k→F k):Many W F W rs [] []:=Many.start h.own (fun r hr k hk=>hF k ⟨r,hr,hk⟩) h.apart
theorem EMem.grow (h:EMem X W rs) (hg:W.grownBy W' none):EMem X W' rs:=⟨fun r hr=>xH (h.own r hr) hg,h.apart,h.offX,fun k hk=>Nat.lt_of_lt_of_le (h.lt k hk) hg.size⟩
theorem wY.of_grown {row:Option Nat} (hlt:∀ k,X k→k < W.heap.size) (hg:W.grownBy W' row) (hr:∀ k,row=some k→¬ X k):wY X W W':=fun k hk=>hg.block k (hlt k hk) (fun e=>hr k e.symm hk)
theorem EMem.keep (h:EMem X W rs) (hg:W.grownBy W' none):wY X W W':=wY.of_grown h.lt hg (by simp)
theorem EMem.after {F:Nat→Prop} {ls:List (Nat × Obj)} (h:EMem X W rs) (hM:Many W F W' rs' ls []) (hF:∀ k,F k→¬ X k):EMem X W' rs' where
 own:=fun r hr=>by
  obtain ⟨i,hi,e⟩:=List.getElem_of_mem hr
  exact hM.own i r (by rw [List.getElem?_eq_getElem hi,e])
 apart:=by
  rw [List.pairwise_iff_getElem]
  intro i j hi hj hij
  exact hM.apart i j _ _ (by omega) (List.getElem?_eq_getElem hi) (List.getElem?_eq_getElem hj)
 offX:=fun r hr k hk hx=>by
  obtain ⟨i,hi,e⟩:=List.getElem_of_mem hr
  rcases hM.mine i r (by rw [List.getElem?_eq_getElem hi,e]) k hk with hf|hf
  ·exact hF k hf hx
  ·have:=h.lt k hx;omega
 lt:=fun k hk=>Nat.lt_of_lt_of_le (h.lt k hk) hM.but.size
theorem EMem.keepMany {F:Nat→Prop} {ls:List (Nat × Obj)} (h:EMem X W rs) (hM:Many W F W' rs' ls []) (hF:∀ k,F k→¬ X k):wY X W W':=fun k hk=>hM.but.block k (h.lt k hk) (fun hf=>hF k hf hk)
theorem EMem.far (h:EMem X W rs) {o:Nat} (hg:W.grownBy W' (some o)) (hr:∀ r∈rs,r.v.ownBlock≠some o):EMem X W' rs where
 own:=fun r hr'=>(h.own r hr').kept hg (.inr (hr r hr'))
 apart:=h.apart
 offX:=h.offX
 lt:=fun k hk=>Nat.lt_of_lt_of_le (h.lt k hk) hg.size
theorem EMem.retire {r:RowS} (h:EMem X W (rs ++ [r])):EMem (fun k=>X k∨r.v.ownBlock=some k) W rs where
 own:=fun s hs=>h.own s (List.mem_append_left _ hs)
 apart:=(List.pairwise_append.1 h.apart).1
 offX:=fun s hs k hk hx=>by
  rcases hx with hx|hx
  ·exact h.offX s (List.mem_append_left _ hs) k hk hx
  ·exact (List.pairwise_append.1 h.apart).2.2 s hs r (by simp) k hk hx
 lt:=fun k hx=>by
  rcases hx with hx|hx
  ·exact h.lt k hx
  ·exact ((h.own r (by simp)).lt k hx).2
theorem EMem.fresh (h:EMem X W rs) (hg:W.grownBy W' none) {Y:Nat→Prop} (hY:∀ k,Y k→W.heap.size≤k∧k < W'.heap.size):EMem (fun k=>X k∨Y k) W' rs where
 own:=fun r hr=>xH (h.own r hr) hg
 apart:=h.apart
 offX:=fun r hr k hk hx=>by
  rcases hx with hx|hx
  ·exact h.offX r hr k hk hx
  ·have:=((h.own r hr).lt k hk).2
   have:=(hY k hx).1
   omega
 lt:=fun k hx=>by
  rcases hx with hx|hx
  ·exact Nat.lt_of_lt_of_le (h.lt k hx) hg.size
  ·exact (hY k hx).2
theorem EMem.add (h:EMem X W rs) (hg:W.grownBy W' none) {r:RowS} (ho:W'.ownsRow r.base r.e r.sz r.v r.n r.xs) (hn:∀ k,r.v.ownBlock=some k→W.heap.size≤k):EMem X W' (rs ++ [r]) where
 own:=fun s hs=>by
  rcases List.mem_append.1 hs with hs|hs
  ·exact xH (h.own s hs) hg
  ·rw [List.mem_singleton] at hs;subst hs;exact ho
 apart:=by
  rw [List.pairwise_append]
  refine ⟨h.apart,by simp,fun s hs t ht k hk e=>?_⟩
  rw [List.mem_singleton] at ht
  subst ht
  have:=((h.own s hs).lt k hk).2
  have:=hn k e
  omega
 offX:=fun s hs k hk hx=>by
  rcases List.mem_append.1 hs with hs|hs
  ·exact h.offX s hs k hk hx
  ·rw [List.mem_singleton] at hs;subst hs
   have:=h.lt k hx
   have:=hn k hk
   omega
 lt:=fun k hk=>Nat.lt_of_lt_of_le (h.lt k hk) hg.size
theorem EMem.nil (w:World):EMem (fun _=>False) w []:=⟨fun r hr=>by simp at hr,List.Pairwise.nil,fun r hr=>by simp at hr,fun k hk=>hk.elim⟩
end
def TX (X:Nat→Prop) (w:World) (v:Value) (ts:List (List Nat)):Prop:=∃ hs,RowX X 22 w v hs∧tY X 3 nats w hs ts
theorem TX.kept {X:Nat→Prop} {w w':World} {v:Value} {ts:List (List Nat)} (h:TX X w v ts) (hk:wY X w w') (hs:w.heap.size≤w'.heap.size):TX X w' v ts:=by
 obtain ⟨l,h1,h2⟩:=h
 exact ⟨l,h1.kept hk hs,h2.kept hk hs⟩
theorem TX.mono {X X':Nat→Prop} {w:World} {v:Value} {ts:List (List Nat)} (h:TX X w v ts) (hX:∀ k,X k→X' k):TX X' w v ts:=by
 obtain ⟨l,h1,h2⟩:=h
 exact ⟨l,h1.mono hX,h2.mono hX⟩
theorem TX.tmat {X:Nat→Prop} {w:World} {v:Value} {ts:List (List Nat)} (h:TX X w v ts):TMat w.heap.size w v ts:=by
 obtain ⟨l,h1,h2⟩:=h
 exact ⟨l,h1.1.row,h2.1,fun i h3 h4=>(h2.2 i h3 h4).1⟩
theorem tY.rowsT {α:Type} {X:Nat→Prop} {e:TypeId} {f:α→List Value} {w:World} {hs:List Value} {ts:List α} (h:tY X e f w hs ts):rY w.heap.size e f w hs ts:=⟨h.1,fun i h3 h4=>(h.2 i h3 h4).1⟩
theorem qAH {base n:Nat} {X:Nat→Prop} {w:World} {v:Value} {hs:List Value} {ts:List (List Nat)} (ho:w.ownsRow base 22 1 v n hs) (h:tY X 3 nats w hs ts):TMat w.heap.size w v ts:=⟨hs,Row.of_owns ho,h.rowsT⟩
end Go.Proofs.YtdjhoadoiknaoaaDoor
