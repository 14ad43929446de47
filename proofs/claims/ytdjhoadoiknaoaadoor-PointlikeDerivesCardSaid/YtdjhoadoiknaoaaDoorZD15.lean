/- Part 15 of the proof: EStart. -/
import Derived.Test.YtdjhoadoiknaoaaDoorZD14
set_option linter.unusedVariables false
set_option linter.unusedSimpArgs false
namespace Go.Proofs.YtdjhoadoiknaoaaDoor
open Go.RowKit
theorem Arr.rowT' {w:World} {g cap:Nat} {e:TypeId} {xs:List Value} (h:Arr w g e xs) (hc:xs.length≤cap) (hm:cap≤maxLen):RowT w.heap.size e w (.slice (some ⟨g,0,none⟩) xs.length cap) xs:=by
 have hlt:=h.lt
 obtain ⟨cur,rest,hg,hcur⟩:=h
 refine .inr ⟨g,0,cap,cur,(0,0),rfl,hlt,hc,hm,hg,fun i hi=>?_⟩
 rw [Nat.zero_add,← Array.getElem?_toList,hcur,List.getElem?_append_left hi,List.getElem?_eq_getElem hi]
theorem box9_345 {w:World} {p e:Nat} {z0 z1 z2 z3 z4 z5 z6 z7 z8:Value} (h:w.heap[p]?=some (.cells #[z0,z1,z2,z3,z4,z5,z6,z7,z8] e (0,0))) (x3 x4 x5:Value) :
  (((w.setCell ⟨p,3,none⟩ x3).setCell ⟨p,4,none⟩ x4).setCell ⟨p,5,none⟩ x5).heap[p]?=some (.cells #[z0,z1,z2,x3,x4,x5,z6,z7,z8] e (0,0))∧w.grownBy (((w.setCell ⟨p,3,none⟩ x3).setCell ⟨p,4,none⟩ x4).setCell ⟨p,5,none⟩ x5) (some p):=by
 have s3:=heap_setCell_same w p 3 _ _ x3 h
 have s4:=heap_setCell_same _ p 4 _ _ x4 s3
 have s5:=heap_setCell_same _ p 5 _ _ x5 s4
 refine ⟨by rw [s5];simp,?_⟩
 have t:=fun (W:World) (i:Nat) (u:Value)=>zH W ⟨p,i,none⟩ u
 exact zF (zF (t _ 3 _) (t _ 4 _)) (t _ 5 _)
theorem eN:ElemN Tryd.prog 104 140 2 (.agg #[.string ⟨#[]⟩,.string ⟨#[]⟩]) 32:=⟨Tryd.underlying104,by kernel_rfl,rfl,by decide⟩
theorem qBB {W:World} {g e:Nat} {u v:Value} {m:Nat × Nat} (h:W.heap[g]?=some (.cells #[u,v] e m)):tD W 2 (.slice (some ⟨g,0,none⟩) 1 1) 1 [u,v]:=by
 have c0:=zI h 0 (by simp)
 have c1:=zI h 1 (by simp)
 simp only [List.getElem_toArray,List.getElem_cons_zero,List.getElem_cons_succ] at c0 c1
 refine .inr ⟨g,0,1,rfl,rfl,by unfold maxLen;omega,fun j u' hj=>?_⟩
 match j,hj with
 | 0,hj=>simp at hj;subst hj;simpa using c0
 | 1,hj=>simp at hj;subst hj;simpa using c1
theorem aE {X:Nat→Prop} {w:World} {rs:List RowS} {P o j:Nat} {e:Nat} {c c':Array Value} {mm mm':Nat × Nat} (hM:EMem X w rs) (hj:rS rs j) (hr:∀ r∈rs,r.base=P∧r.e≠e) (ho:w.heap[o]?=some (.cells c e mm)) (hP:w.heap[P]?=some (.cells c' e mm')):P≤j∧¬ X j∧j≠o∧j≠P:=by
 obtain ⟨r,hr1,hk⟩:=hj
 have hown:=hM.own r hr1
 refine ⟨by have:=(hown.lt j hk).1;rw [(hr r hr1).1] at this;exact this,hM.offX r hr1 j hk,fun e1=>?_,fun e1=>?_⟩
 ·subst e1;exact zS hown ho (hr r hr1).2 hk
 ·subst e1;exact zS hown hP (hr r hr1).2 hk
inductive StartS (B P o n:Nat) (gs:List (List Nat)) (vg gv:Value) (w0:World) (x:Nat) (w:World):Prop
 | mk (X:Nat→Prop) (els:List (List Nat)) (pre las:List Int) (m u:Nat) (us hsE:List Value) (sE:Option Addr) (cE:Nat) (sP:Option Addr) (cP:Nat) (sL:Option Addr) (cL:Nat) (sU:Option Addr) (cU:Nat)
  (he:yO gs n x=(els,pre,las)) (hl:els.length=m) (hpl:pre.length=m) (hll:las.length=m) (hm:m≤x+1) (hu:u≤x) (hus:∀ v∈us,v.oneCell'=true)
  (hM:EMem X w [⟨P,22,.slice sE m cE,m,hsE,1⟩,⟨P,3,.slice sP m cP,m,ints pre,1⟩,⟨P,3,.slice sL m cL,m,ints las,1⟩,⟨P,140,.slice sU u cU,u,us,2⟩])
  (hE:tY X 3 nats w hsE els) (hG:TX X w gv gs) (hV:TMat B w vg gs) (hX:¬ X o∧¬ X P)
  (hB:w.heap[o]?=some (.cells #[.int .i64 n,.bool true,gv,.slice sE m cE,.slice sP m cP,.slice sL m cL,.slice none 0 0,.slice sU u cU,.int .i64 0] 106 (0,0)))
  (hBP:w.heap[P]?=some (.cells #[.int .i64 0,.bool false,.slice none 0 0,.slice none 0 0,.slice none 0 0,.slice none 0 0,.slice none 0 0,.slice none 0 0,.int .i64 0] 106 (0,0))) (hg:w0.grownBy w none)
theorem iD {gs:List (List Nat)} {n:Nat}:∀ x,x≤gs.length→rJ (yO gs n x).2.1 (yO gs n x).2.2 (yO gs n x).1.length gs.length∧(yO gs n x).2.1.length=(yO gs n x).1.length∧(yO gs n x).2.2.length=(yO gs n x).1.length∧1≤(yO gs n x).1.length
 | 0,_=>by
  refine ⟨fun i hi=>?_,rfl,rfl,Nat.le_refl _⟩
  have hi:i=0:=by simp [yO] at hi;omega
  subst hi
  exact .inl (by simp [yO])
 | x+1,hx=>by
  obtain ⟨h1,h2,h3,h4⟩:=iD (gs:=gs) (n:=n) x (by omega)
  rw [yO]
  split
  ·exact ⟨h1,h2,h3,h4⟩
  ·refine ⟨fun i hi=>?_,by simp [h2],by simp [h3],by simp⟩
   simp only [List.length_append,List.length_singleton] at hi
   rcases Nat.lt_or_ge i (yO gs n x).1.length with h|h
   ·have e1:((yO gs n x).2.1 ++ [0]).getD i 0=(yO gs n x).2.1.getD i 0:=by rw [List.getD_eq_getElem?_getD,List.getElem?_append_left (by rw [h2];exact h),← List.getD_eq_getElem?_getD]
    have e2:((yO gs n x).2.2 ++ [(x:Int)]).getD i 0=(yO gs n x).2.2.getD i 0:=by rw [List.getD_eq_getElem?_getD,List.getElem?_append_left (by rw [h3];exact h),← List.getD_eq_getElem?_getD]
    rw [e1,e2]
    exact h1 i h
   ·have e:i=(yO gs n x).1.length:=by omega
    subst e
    have e1:((yO gs n x).2.1 ++ [0]).getD (yO gs n x).1.length 0=0:=by rw [List.getD_eq_getElem?_getD,List.getElem?_append_right (by rw [h2];exact Nat.le_refl _),h2];simp
    have e2:((yO gs n x).2.2 ++ [(x:Int)]).getD (yO gs n x).1.length 0=x:=by rw [List.getD_eq_getElem?_getD,List.getElem?_append_right (by rw [h3];exact Nat.le_refl _),h3];simp
    rw [e1,e2]
    exact .inr ⟨by omega,by omega,by omega,by omega⟩
def StartOk (gs:List (List Nat)) (n:Nat) (w:World) (e:Ending) (w':World):Prop :=
 ∃ (X:Nat→Prop) (els:List (List Nat)) (pre las:List Int) (m u:Nat) (us hsE:List Value) (gv:Value) (sE:Option Addr) (cE:Nat) (sP:Option Addr) (cP:Nat) (sL:Option Addr) (cL:Nat) (sU:Option Addr) (cU:Nat),
  e=.returned (.tuple #[.agg #[.int .i64 n,.bool true,gv,.slice sE m cE,.slice sP m cP,.slice sL m cL,.slice none 0 0,.slice sU u cU,.int .i64 0],.int .i64 0])∧yO gs n gs.length=(els,pre,las)∧els.length=m∧pre.length=m∧las.length=m∧u≤6∧(∀ v∈us,v.oneCell'=true) ∧
  EMem X w' [⟨w.heap.size,22,.slice sE m cE,m,hsE,1⟩,⟨w.heap.size,3,.slice sP m cP,m,ints pre,1⟩,⟨w.heap.size,3,.slice sL m cL,m,ints las,1⟩,⟨w.heap.size,140,.slice sU u cU,u,us,2⟩]∧tY X 3 nats w' hsE els∧TX X w' gv gs∧w.grownBy w' none
set_option maxRecDepth 100000 in
set_option maxHeartbeats 8000000 in
theorem start12_any (B:Nat) (w:World) (v0:Value) (gs:List (List Nat)) (n:Nat) (hB:B≤w.heap.size) (h:TMat B w v0 gs) (hgs:∀ g∈gs,IsT n g) (h1:1≤n) (h32:n≤32) (hk1:1≤gs.length) (hk6:gs.length≤6) :
  Calls Tryd.prog 104 #[v0,.bool true] w (StartOk gs n w):=by
 obtain ⟨b0,o0,c0,rfl,hc1,hc2,hb0,hb1,hhd⟩:=h.head (by omega)
 have hc2':c0≤9223372036854775807:=by unfold maxLen at hc2;omega
 obtain ⟨P,hP⟩:∃ P,P=w.heap.size:=⟨_,rfl⟩
 have HPE:=Kh hP
 obtain ⟨wA,hWA⟩:∃ wA,wA=w.alloc (.cells #[.int .i64 0,.bool false,.slice none 0 0,.slice none 0 0,.slice none 0 0,.slice none 0 0,.slice none 0 0,.slice none 0 0,.int .i64 0] 106):=⟨_,rfl⟩
 have hbA:=heap_alloc_new w (.cells #[.int .i64 0,.bool false,.slice none 0 0,.slice none 0 0,.slice none 0 0,.slice none 0 0,.slice none 0 0,.slice none 0 0,.int .i64 0] 106)
 have hgA:=Ga w (.cells #[.int .i64 0,.bool false,.slice none 0 0,.slice none 0 0,.slice none 0 0,.slice none 0 0,.slice none 0 0,.slice none 0 0,.int .i64 0] 106) none
 have hzA:=zO w (.cells #[.int .i64 0,.bool false,.slice none 0 0,.slice none 0 0,.slice none 0 0,.slice none 0 0,.slice none 0 0,.slice none 0 0,.int .i64 0] 106)
 rw [← hWA] at hbA hgA hzA
 rw [← hP] at hbA hzA hB
 have HTA:=Kh (h.kept hgA (by simp))
 have HT00:=Kh h
 have HBA:=Kh hbA;have HGA:=Kh hgA;have HWA:=Kh hWA;have HGS:=Kh hgs
 clear hbA hgA hWA h hgs hhd
 go_enter Tryd.func104,Tryd.ntmps104
 go_upto_region 1 with fail
 rw [← HWA.out,← HPE.out]
 clear hP
 have hkn1:¬ (gs.length:Int) < 1:=by omega
 have hkn6:¬ 6 < (gs.length:Int):=by omega
 go_wp2_with fail
 refine (mayGens_any B wA (.slice (some ⟨b0,o0,none⟩) gs.length c0) gs n HTA.out HGS.out h1 h32 hk1 hk6).mono ?_
 rintro e w1 ⟨rfl,rfl⟩
 obtain ⟨w5,hw5⟩:∃ w5,w5=wA.drew:=⟨_,rfl⟩
 have hg5:wA.grownBy w5 none:=by rw [hw5];exact zT wA none
 have HW5:=Kh hw5
 have HT5:=Kh (HTA.out.kept hg5 (by simp))
 have HB5:=Kh (zE HBA.out hg5 (by simp))
 have HG5:=Kh (zG HGA.out hg5 (by simp))
 have hsz5:=hg5.size
 have HCP:Hid (∀ W:World,w5.grownBy W none→Calls Tryd.prog 115 #[.slice (some ⟨b0,o0,none⟩) gs.length c0] W (eZ W gs)):=Kh (fun W hg=>copyT_any B W _ gs (by have:=hg.size;omega) (HT5.out.kept hg (by simp)) (by omega) (fun t ht=>by rw [(HGS.out t ht).1];omega))
 obtain ⟨b0',o0',c0',e0,_,_,_,_,hhd⟩:=HT5.out.head (by omega)
 have e0:b0=b0'∧o0=o0':=by simpa using And.intro (congrArg (fun v=>match v with|Value.slice (some a) _ _=>a.block|_=>0) e0) (congrArg (fun v=>match v with|Value.slice (some a) _ _=>a.off|_=>0) e0)
 obtain ⟨rfl,rfl⟩:=e0
 obtain ⟨ha,hc,hcell,_⟩:=hhd 0 (by omega)
 have hl0:(gs.getD 0 []).length=n:=(HGS.out _ (tH (by omega))).1
 rw [hl0,Nat.add_zero] at hcell
 have C:=Kh hcell
 have hk0:(0:Int) < (gs.length:Int):=by omega
 have hk0n:0 < gs.length:=by omega
 clear hw5 hg5 hcell hhd HTA
 go_upto_region 5 with fail
 refine wp_region_noPanic ?_
 refine yY (G:=vV 9 (fun _=>True) (fun W=>W.cell? ⟨b0,o0,none⟩=some (.slice ha n hc))) (by kernel_rfl) ?_
 rw [← HW5.out]
 refine takeC (i:=0) (v:=?_) rfl rfl (Or.inl ⟨by rfl,?_⟩) ⟨trivial,fun _=>C.out⟩ ?_
 rotate_left
 ·(intro wz hz;(try dsimp only at hz);go_simp;(try with_reducible rfl))
 try simp only [Act.put,sPa,sPb,sPc]
 refine takeC (i:=1) (v:=?_) rfl rfl (Or.inl ⟨by rfl,?_⟩) ⟨trivial,fun _=>C.out⟩ ?_
 rotate_left
 ·(intro wz hz;(try dsimp only at hz);go_simp;(try with_reducible rfl))
 try simp only [Act.put,sPa,sPb,sPc]
 refine takeD (i:=2) (v:=?_) rfl rfl (Or.inl ⟨by rfl,?_⟩) ⟨trivial,fun _=>C.out⟩ ?_
 rotate_left
 ·(rintro wz ⟨-,hz⟩;(try dsimp only at hz);go_simp;(try with_reducible rfl))
 try simp only [Act.put,sPa,sPb,sPc]
 refine takeC (i:=3) (v:=?_) rfl rfl (Or.inl ⟨by rfl,?_⟩) ⟨trivial,fun _=>C.out⟩ ?_
 rotate_left
 ·(intro wz hz;(try dsimp only at hz);go_simp;(try with_reducible rfl))
 try simp only [Act.put,sPa,sPb,sPc]
 refine takeC (i:=4) (v:=?_) rfl rfl (Or.inl ⟨by rfl,?_⟩) ⟨trivial,fun _=>C.out⟩ ?_
 rotate_left
 ·(intro wz hz;(try dsimp only at hz);go_simp;(try with_reducible rfl))
 try simp only [Act.put,sPa,sPb,sPc]
 refine takeC (i:=5) (v:=?_) rfl rfl (Or.inl ⟨by rfl,?_⟩) ⟨trivial,fun _=>C.out⟩ ?_
 rotate_left
 ·(intro wz hz;(try dsimp only at hz);go_simp;(try with_reducible rfl))
 try simp only [Act.put,sPa,sPb,sPc]
 refine tF (fun Wp hWp a0 ha0=>?_)
 subst hWp
 simp only [Act.put,List.getElem_toArray,List.getElem_cons_zero,List.getElem_cons_succ,sPa,sPb,sPc] at ha0
 have HA0:=Kh ha0
 refine tE (I:=start5I n b0 o0 gs (.slice ha n hc) (.slice (some ⟨b0,o0,none⟩) gs.length c0) w5 a0) (fun l a w h=>start5_G C.out h) (start5_steps ha0 HCP.out) (by kernel_rfl) ?hend (by decide +kernel) ?hinit
 case hinit =>
  clear ha0
  refine ⟨a0.tmps.getD 30 undef,a0.tmps.getD 31 undef,a0.tmps.getD 6 undef,0,(uI (by simp)).symm,by decide +kernel,Kh (fun h=>absurd h (by decide +kernel)),Kh (fun h=>absurd h (by decide +kernel)),Kh (fun h=>absurd h (by decide +kernel)),Kh (fun h=>absurd h (by decide +kernel)),Kh (fun h=>absurd h (by decide +kernel)),zW _ _⟩
 case hend =>
  clear ha0
  intro l a w6 h hall
  obtain ⟨x30,x31,x6,o,ha,HR,H6,H7,H8,B1,B2,HG⟩:=h
  obtain ⟨sa,sc,rfl,hown6⟩:=H6.out (hall 6 (by decide))
  obtain ⟨_,rfl⟩:=H7.out (hall 7 (by decide))
  obtain ⟨rfl,ho6⟩:=H8.out (hall 8 (by decide))
  obtain ⟨_,_,hb6⟩:=B2.out (hall 9 (by decide))
  clear H6 H7 H8 B1 B2 HR
  subst ha
  rw [HA0.out]
  simp only [zL,List.foldl_cons,List.foldl_nil,Act.put,sPa,sPb,sPc]
  refine NoPanic.normal ?_
 
  have hoP:P < o:=by have:=HPE.out;omega
  have hbP:=zE HB5.out HG (by simp)
  obtain ⟨hsG,hoG,hrG,hlG⟩:=hown6
  have hTX:TX (fun j=>j < w6.heap.size∧j≠o∧j≠P) w6 (.slice sa gs.length sc) gs:=by
   refine ⟨hsG,⟨RowT.of_owns hoG,fun j hj=>⟨(hoG.lt j hj).2,fun e=>zS hoG hb6 (by decide) (e ▸ hj),fun e=>zS hoG hbP (by decide) (e ▸ hj)⟩⟩,hrG.1,fun i h3 h4=>⟨hrG.2 i h3 h4,fun j hj=>?_⟩⟩
   rcases hrG.2 i h3 h4 with ⟨e,_⟩|⟨b,off,cap,cur,m,e,e2,e3,e4,e5,e6⟩
   ·rw [e] at hj;simp [Value.ownBlock] at hj
   ·rw [e] at hj
    have hj:b=j:=by simpa [Value.ownBlock] using hj
    subst hj
    refine ⟨zQ e5,fun e7=>?_,fun e7=>?_⟩
    ·subst e7;rw [hb6] at e5;simp at e5
    ·subst e7;rw [hbP] at e5;simp at e5
  have hM6:EMem (fun j=>j < w6.heap.size∧j≠o∧j≠P) w6 []:=⟨fun r hr=>by simp at hr,List.Pairwise.nil,fun r hr=>by simp at hr,fun j hj=>hj.1⟩
  have HTX:=Kh hTX;have HM6:=Kh hM6;have HB6:=Kh hb6;have HBP6:=Kh hbP
  have HV6:=Kh (HT5.out.kept HG (by simp));have HG6:=Kh (zG HG5.out HG (by simp))
  have hsz6:=HG.size
  obtain ⟨d0,d1,d2,d3,d4,d5,d6,d7,d8⟩:=zX hb6
  clear hbP hoG hrG hlG hTX hM6 HG hb6 HT5 HB5 HG5 HW5 C HCP d1 d2 d3 d4 d5 d6 d7 d8
  go_wp2_with fail
  refine (discrete_any w6 n (by omega)).mono ?_
  rintro e w7 ⟨g,rfl,hg,hA7,hg7⟩
  have hgE:=Ga w7 (.cells #[.slice (some ⟨g,0,none⟩) n n] 22) none
  have hbE:=heap_alloc_new w7 (.cells #[.slice (some ⟨g,0,none⟩) n n] 22)
  have hzE:=zO w7 (.cells #[.slice (some ⟨g,0,none⟩) n n] 22)
  have hgP:=Ga (w7.alloc (.cells #[.slice (some ⟨g,0,none⟩) n n] 22)) (.cells #[.int .i64 (-1)] 3) none
  have hbPp:=heap_alloc_new (w7.alloc (.cells #[.slice (some ⟨g,0,none⟩) n n] 22)) (.cells #[.int .i64 (-1)] 3)
  have hzP:=zO (w7.alloc (.cells #[.slice (some ⟨g,0,none⟩) n n] 22)) (.cells #[.int .i64 (-1)] 3)
  have hgL:=Ga ((w7.alloc (.cells #[.slice (some ⟨g,0,none⟩) n n] 22)).alloc (.cells #[.int .i64 (-1)] 3)) (.cells #[.int .i64 (-1)] 3) none
  have hbL:=heap_alloc_new ((w7.alloc (.cells #[.slice (some ⟨g,0,none⟩) n n] 22)).alloc (.cells #[.int .i64 (-1)] 3)) (.cells #[.int .i64 (-1)] 3)
  have hb9:=zE (zE (zE (zE HB6.out hg7 (by simp)) hgE (by simp)) hgP (by simp)) hgL (by simp)
  rw [List.length_range] at *
  obtain ⟨k0,k1,k2,k3,k4,k5,k6,k7,k8⟩:=zX hb9
  have f3:=zD hb9 3;have f4:=zD hb9 4;have f5:=zD hb9 5
  have HB9:=Kh hb9
  clear hb9 k0 k1 k2 k6 k7 k8
  go_wp2
  rw [zO] at hbPp
  rw [zO,zO] at hbL
  have hM8:=HM6.out.fresh hg7 (Y:=fun j=>j=g) (fun j e=>by subst e;exact ⟨hg,hA7.lt⟩)
  have hP7:P≤w7.heap.size:=by have:=hg7.size;omega
  have hM9:=hM8.add hgE (r:=⟨P,22,.slice (some ⟨w7.heap.size,0,none⟩) 1 1,1,[.slice (some ⟨g,0,none⟩) n n],1⟩) (gS hbE hP7 rfl (by unfold maxLen;omega)) (fun j e=>Nat.le_of_eq (by simpa [Value.ownBlock] using e))
  have hM10:=hM9.add hgP (r:=⟨P,3,.slice (some ⟨w7.heap.size+1,0,none⟩) 1 1,1,ints [-1],1⟩) (gS hbPp (show P≤_ by omega) rfl (by unfold maxLen;omega)) (fun j e=>Nat.le_of_eq (by rw [zO];simpa [Value.ownBlock] using e))
  have hM11:=hM10.add hgL (r:=⟨P,3,.slice (some ⟨w7.heap.size+1+1,0,none⟩) 1 1,1,ints [-1],1⟩) (gS hbL (show P≤_ by omega) rfl (by unfold maxLen;omega)) (fun j e=>Nat.le_of_eq (by rw [zO,zO];simpa [Value.ownBlock] using e))
  have hM12:=hM11.add (zW _ none) (r:=⟨P,140,.slice none 0 0,0,[],2⟩) (World.ownsRow_nil _ _ _ _) (fun j e=>by simp [Value.ownBlock] at e)
  have g0:=zG (zG (zG hg7 hgE (by simp)) hgP (by simp)) hgL (by simp)
  have g79:=zG (zG hgE hgP (by simp)) hgL (by simp)
  have hAL:=hA7.kept g79 (by simp)
  obtain ⟨wL,hwL⟩:∃ wL,wL=((w7.alloc (.cells #[.slice (some ⟨g,0,none⟩) n n] 22)).alloc (.cells #[.int .i64 (-1)] 3)).alloc (.cells #[.int .i64 (-1)] 3):=⟨_,rfl⟩
  rw [← hwL] at hM12 g0 hAL HB9 ⊢
  obtain ⟨hbZ,hgZ⟩:=box9_345 HB9.out (.slice (some ⟨w7.heap.size,0,none⟩) 1 1) (.slice (some ⟨w7.heap.size+1,0,none⟩) 1 1) (.slice (some ⟨w7.heap.size+1+1,0,none⟩) 1 1)
  have hM13:=hM12.far hgZ (fun r hr=>zS (hM12.own r hr) HB9.out (by
   simp only [List.nil_append,List.cons_append,List.mem_cons,List.not_mem_nil,or_false] at hr
   rcases hr with rfl|rfl|rfl|rfl <;> simp))
  have hXo:∀ j,(j < w6.heap.size∧j≠o∧j≠P)→j≠o:=fun j h=>h.2.1
  have k1:wY (fun j=>j < w6.heap.size∧j≠o∧j≠P) w6 wL:=HM6.out.keep g0
  have hTXL:=(HTX.out.kept k1 g0.size).mono (X':=fun j=>(j < w6.heap.size∧j≠o∧j≠P)∨j=g) (fun j h=>.inl h)
  have k2:wY (fun j=>(j < w6.heap.size∧j≠o∧j≠P)∨j=g) wL _:=wY.of_grown hM12.lt hgZ (fun j e hx=>by
   have e:o=j:=Oj e
   have:=zQ HB6.out
   rcases hx with hx|hx
   ·exact hx.2.1 e.symm
   ·omega)
  have hEL:tY (fun j=>(j < w6.heap.size∧j≠o∧j≠P)∨j=g) 3 nats wL [.slice (some ⟨g,0,none⟩) n n] [List.range n]:=by
   refine tY.nil.snoc (hs:=[]) (ts:=[]) ⟨?_,fun j e=>?_⟩
   ·have:=hAL.rowT' (cap:=n) (by simp [nats]) (by unfold maxLen;omega)
    rwa [zN,List.length_range] at this
   ·have e:g=j:=by simpa [Value.ownBlock] using e
    exact .inr e.symm
  have hS0:StartS B P o n gs (.slice (some ⟨b0,o0,none⟩) gs.length c0) (.slice sa gs.length sc) w 0 _:=.mk _ [List.range n] [-1] [-1] 1 0 [] _ _ _ _ _ _ _ _ _ rfl rfl rfl rfl (by omega) (by omega) (fun v hv=>by simp at hv) hM13 (hEL.kept k2 hgZ.size) (hTXL.kept k2 hgZ.size) ((HV6.out.kept g0 (by simp)).kept hgZ (fun j e=>by have e:o=j:=Oj e;omega)) ⟨fun hx=>by
    have:=zQ HB6.out
    rcases hx with hx|hx
    ·exact hx.2.1 rfl
    ·omega,fun hx=>by
    have:=zQ HB6.out
    rcases hx with hx|hx
    ·exact hx.2.2 rfl
    ·omega⟩ hbZ (zE (zE HBP6.out g0 (by simp)) hgZ (by simp;omega)) (zG (zG HG6.out g0 (by simp)) hgZ (fun j e=>by have e:o=j:=Oj e;have:=HPE.out;omega))
  have HS0:=Kh hS0
  clear hS0
  clear hEL k2 hTXL k1 hXo hM13 hgZ hbZ hwL hAL g79 g0 hM12 hM11 hM10 hM9 hM8 hgL hgP hgE hbL hbPp hbE k3 k4 k5 f3 f4 f5 hA7 hg7 hzP hzE HTX HM6 HB6 HBP6 HV6 HG6 HB9 d0
  go_loopg [8,9,10,44] gs.length (fun gh v8 v9 v10 i wr=>∃ x:Nat,gh+x=gs.length∧i=.int .i64 x∧StartS B P o n gs (.slice (some ⟨b0,o0,none⟩) gs.length c0) (.slice sa gs.length sc) w x wr)
  case atStart=>exact ⟨0,by omega,rfl,HS0.out⟩
  case round =>
   obtain ⟨x,hgh,rfl,hS⟩:=hrel
   have HGH:=Kh hgh;have HS:=Kh hS
   obtain ⟨X,els,pre,las,m,u,us,hsE,sE,cE,sP,cP,sL,cL,sU,cU,he,hl,hpl,hll,hm,hu,hus,hM,hE,hG,hV,hX,hB9,hBP,hgw⟩:=hS
   have HUS:=Kh hus
   clear hus
   clear hgh HS0
   by_cases hx:x < gs.length
   ·have hx':(x:Int) < gs.length:=by omega
    obtain ⟨b0',o0',c0',e0,_,_,_,_,hhd⟩:=hV.head (by omega)
    have e0:b0=b0'∧o0=o0':=by simpa using And.intro (congrArg (fun v=>match v with|Value.slice (some a) _ _=>a.block|_=>0) e0) (congrArg (fun v=>match v with|Value.slice (some a) _ _=>a.off|_=>0) e0)
    obtain ⟨rfl,rfl⟩:=e0
    obtain ⟨fa,fc,hcell,hfr⟩:=hhd x hx
    have hft:=HGS.out _ (tH (d:=[]) hx)
    obtain ⟨f,hf⟩:∃ f,f=gs.getD x []:=⟨_,rfl⟩
    rw [← hf] at hcell hfr hft
    rw [hft.1] at hcell hfr
    have HF:=Kh hf;have HFT:=Kh hft;have HFR:=Kh hfr;have HE0:=Kh he
    have hfind:=eI wr.heap.size B wr (.slice sE m cE) (.slice fa n fc) els f (qAH (hM.own _ (List.mem_cons_self)) hE) hfr.row
    have HFD:=Kh hfind
    obtain ⟨q0,q1,q2,q3,q4,q5,q6,q7,q8⟩:=zX hB9
    have HM:=Kh hM;have HE:=Kh hE;have HGV:=Kh hG;have HV:=Kh hV;have HX:=Kh hX;have HB9:=Kh hB9;have HBP:=Kh hBP;have HGW:=Kh hgw
    clear hhd hf hft hfr he hfind hM hE hG hV hX hB9 hBP hgw q0 q1 q2 q4 q5 q6 q7 q8
    go_wp2_with fail
    refine HFD.out.mono ?_
    rintro e w2 ⟨rfl,md,rfl⟩
    by_cases hin:f∈els
    ·have hlt:els.idxOf f < els.length:=List.idxOf_lt_length_of_mem hin
     have hfT:mW els f=((els.idxOf f:Nat):Int):=by unfold mW;rw [if_pos hin]
     rw [hfT]
     obtain ⟨i0,hi0⟩:∃ i0,i0=els.idxOf f:=⟨_,rfl⟩
     rw [← hi0] at hlt ⊢
     have hi0n:(0:Int)≤(i0:Int):=by omega
     clear hfT hi0
     obtain ⟨w4,hw4⟩:∃ w4,w4=(wr.drewN md).drew:=⟨_,rfl⟩
     have hg4:wr.grownBy w4 none:=by rw [hw4];exact zG (zJ wr md none) (zT _ none) (by simp)
     have HW4:=Kh hw4
     have HM4:=Kh (HM.out.grow hg4);have HB4:=Kh (zE HB9.out hg4 (by simp))
     have k4:=HM.out.keep hg4
     have HE4:=Kh (HE.out.kept k4 hg4.size);have HGV4:=Kh (HGV.out.kept k4 hg4.size);have HV4:=Kh (HV.out.kept hg4 (by simp));have HBP4:=Kh (zE HBP.out hg4 (by simp));have HGW4:=Kh (zG HGW.out hg4 (by simp))
     have hx26:x < 26:=by omega
     have HLT:=fun W=>Kh (iK W x hx26)
     have hst:=iD (gs:=gs) (n:=n) x (by omega)
     rw [HE0.out] at hst
     have HST:=Kh hst
     have hok:rJ pre las m gs.length:=by
      have:=hst.1
      simp only at this
      rw [hl] at this
      exact this
     have HWD:Hid (∀ W:World,w4.grownBy W none→Calls Tryd.prog 85 #[.agg #[.int .i64 n,.bool true,.slice sa gs.length sc,.slice sE m cE,.slice sP m cP,.slice sL m cL,.slice none 0 0,.slice sU u cU,.int .i64 0],.int .i64 (i0:Int)] W fun e w'=>e=.returned (.string (strOfNums (lets (rQ pre las i0))))∧W.grownBy w' none):=Kh (fun W hg=>by
      have hMW:=HM4.out.grow hg
      exact lH W.heap.size W.heap.size W _ _ _ _ _ _ _ _ _ pre las m gs.length i0 (Nat.le_refl _) (Nat.le_refl _) (Row.of_owns (hMW.own ⟨P,3,.slice sP m cP,m,ints pre,1⟩ (by simp))) (Row.of_owns (hMW.own ⟨P,3,.slice sL m cL,m,ints las,1⟩ (by simp))) hpl hll hok hk6 (by omega) (by omega))
     clear hw4 hg4 k4 HM HB9 HE HGV HV HBP HGW q3 hst hok HFR
     obtain ⟨q0,q1,q2,q3,q4,q5,q6,q7,q8⟩:=zX HB4.out
     have C:=Kh (And.intro q0 (And.intro q1 (And.intro q2 (And.intro q3 (And.intro q4 (And.intro q5 (And.intro q6 (And.intro q7 q8))))))))
     clear q0 q1 q2 q3 q4 q5 q6 q7 q8
     go_upto_region 15 with fail
     refine wp_region_noPanic ?_
     refine yY (G:=vV 11 (fun _=>True) (fun W=>W.cell? ⟨o,0,none⟩=some (.int .i64 n)∧W.cell? ⟨o,1,none⟩=some (.bool true)∧W.cell? ⟨o,2,none⟩=some (.slice sa gs.length sc)∧W.cell? ⟨o,3,none⟩=some (.slice sE m cE)∧W.cell? ⟨o,4,none⟩=some (.slice sP m cP)∧W.cell? ⟨o,5,none⟩=some (.slice sL m cL)∧W.cell? ⟨o,6,none⟩=some (.slice none 0 0)∧W.cell? ⟨o,7,none⟩=some (.slice sU u cU)∧W.cell? ⟨o,8,none⟩=some (.int .i64 0))) (by kernel_rfl) ?_
     rw [← HW4.out]
     refine takeC (i:=0) (v:=?_) rfl rfl (Or.inl ⟨by rfl,?_⟩) ⟨trivial,fun _=>C.out⟩ ?_
     rotate_left
     ·(intro wz hz;(try dsimp only at hz);go_simp;(try with_reducible rfl))
     try simp only [Act.put,sPa,sPb,sPc]
     refine takeD (i:=1) (v:=?_) rfl rfl (Or.inl ⟨by rfl,?_⟩) ⟨trivial,fun _=>C.out⟩ ?_
     rotate_left
     ·(rintro wz ⟨-,hz⟩;(try dsimp only at hz);go_simp;(try with_reducible rfl))
     try simp only [Act.put,sPa,sPb,sPc]
     refine takeC (i:=2) (v:=?_) rfl rfl (Or.inl ⟨by rfl,?_⟩) ⟨trivial,fun _=>C.out⟩ ?_
     rotate_left
     ·(intro wz hz;(try dsimp only at hz);go_simp;(try with_reducible rfl))
     try simp only [Act.put,sPa,sPb,sPc]
     refine takeD (i:=4) (v:=?_) rfl rfl (Or.inl ⟨by rfl,?_⟩) ⟨trivial,fun _=>C.out⟩ ?_
     rotate_left
     ·(rintro wz ⟨-,hz⟩;(try dsimp only at hz);go_simp;(try with_reducible rfl))
     try simp only [Act.put,sPa,sPb,sPc]
     refine takeC (i:=5) (v:=?_) rfl rfl (Or.inl ⟨by rfl,?_⟩) ⟨trivial,fun _=>C.out⟩ ?_
     rotate_left
     ·(intro wz hz;(try dsimp only at hz);go_simp;(try with_reducible rfl))
     try simp only [Act.put,sPa,sPb,sPc]
     refine oneG (i:=3) (by kernel_rfl) rfl (fun K hK=>?_)
     go_simp
     go_at_call 106
     refine (HLT _).out.mono ?_
     rintro e w7 ⟨rfl,hg7⟩
     have C7:Hid (w7.cell? ⟨o,0,none⟩=some (.int .i64 n)∧w7.cell? ⟨o,1,none⟩=some (.bool true)∧w7.cell? ⟨o,2,none⟩=some (.slice sa gs.length sc)∧w7.cell? ⟨o,3,none⟩=some (.slice sE m cE)∧w7.cell? ⟨o,4,none⟩=some (.slice sP m cP)∧w7.cell? ⟨o,5,none⟩=some (.slice sL m cL)∧w7.cell? ⟨o,6,none⟩=some (.slice none 0 0)∧w7.cell? ⟨o,7,none⟩=some (.slice sU u cU)∧w7.cell? ⟨o,8,none⟩=some (.int .i64 0)):=Kh (by
      obtain ⟨q0,q1,q2,q3,q4,q5,q6,q7,q8⟩:=zX (zE HB4.out hg7 (by simp))
      exact ⟨q0,q1,q2,q3,q4,q5,q6,q7,q8⟩)
     have HG7:=Kh hg7
     refine hK.out _ _ ⟨trivial,fun _=>C7.out⟩ ?_
     clear hK K hg7 C
     try simp only [Act.put,sPa,sPb,sPc]
     refine oneG (i:=6) (by kernel_rfl) rfl (fun K hK=>?_)
     go_simp
     go_at_call 85
     refine (HWD.out w7 HG7.out).mono ?_
     rintro e w8 ⟨rfl,hg8⟩
     have HG8:=Kh (zG HG7.out hg8 (by simp))
     have hB8:=zE HB4.out HG8.out (by simp)
     have C8:Hid (w8.cell? ⟨o,0,none⟩=some (.int .i64 n)∧w8.cell? ⟨o,1,none⟩=some (.bool true)∧w8.cell? ⟨o,2,none⟩=some (.slice sa gs.length sc)∧w8.cell? ⟨o,3,none⟩=some (.slice sE m cE)∧w8.cell? ⟨o,4,none⟩=some (.slice sP m cP)∧w8.cell? ⟨o,5,none⟩=some (.slice sL m cL)∧w8.cell? ⟨o,6,none⟩=some (.slice none 0 0)∧w8.cell? ⟨o,7,none⟩=some (.slice sU u cU)∧w8.cell? ⟨o,8,none⟩=some (.int .i64 0)):=Kh (by
      obtain ⟨q0,q1,q2,q3,q4,q5,q6,q7,q8⟩:=zX hB8
      exact ⟨q0,q1,q2,q3,q4,q5,q6,q7,q8⟩)
     refine hK.out _ _ ⟨trivial,fun _=>C8.out⟩ ?_
     clear hK K hg8 C7 hB8 HG7
     try simp only [Act.put,sPa,sPb,sPc]
     obtain ⟨s1,hs1⟩:∃ s1,s1=strOfNums [97+(x:Int)]:=⟨_,rfl⟩
     obtain ⟨s2,hs2⟩:∃ s2,s2=strOfNums (lets (rQ pre las i0)):=⟨_,rfl⟩
     rw [← hs1,← hs2]
     clear hs1 hs2
     refine takeC (i:=7) (v:=?_) rfl rfl (Or.inl ⟨by rfl,?_⟩) ⟨trivial,fun _=>C8.out⟩ ?_
     rotate_left
     ·(intro wz hz;(try dsimp only at hz);go_simp;(try with_reducible rfl))
     try simp only [Act.put,sPa,sPb,sPc]
     refine oneG (i:=8) (by kernel_rfl) rfl (fun K hK=>?_)
     go_simp
     have hgn:=heap_alloc_new w8 (.cells #[.string s1,.string s2] 140)
     have hg9:=Ga w8 (.cells #[.string s1,.string s2] 140) none
     have HG9:=Kh (zG HG8.out hg9 (by simp))
     obtain ⟨gR,hgR⟩:∃ gR,gR=w8.heap.size:=⟨_,rfl⟩
     obtain ⟨w9,hw9⟩:∃ w9,w9=w8.alloc (.cells #[.string s1,.string s2] 140):=⟨_,rfl⟩
     rw [← hgR] at hgn ⊢
     rw [← hw9] at hgn HG9 ⊢
     have hB9:=zE HB4.out HG9.out (by simp)
     have C9:Hid (w9.cell? ⟨o,0,none⟩=some (.int .i64 n)∧w9.cell? ⟨o,1,none⟩=some (.bool true)∧w9.cell? ⟨o,2,none⟩=some (.slice sa gs.length sc)∧w9.cell? ⟨o,3,none⟩=some (.slice sE m cE)∧w9.cell? ⟨o,4,none⟩=some (.slice sP m cP)∧w9.cell? ⟨o,5,none⟩=some (.slice sL m cL)∧w9.cell? ⟨o,6,none⟩=some (.slice none 0 0)∧w9.cell? ⟨o,7,none⟩=some (.slice sU u cU)∧w9.cell? ⟨o,8,none⟩=some (.int .i64 0)):=Kh (by
      obtain ⟨q0,q1,q2,q3,q4,q5,q6,q7,q8⟩:=zX hB9
      exact ⟨q0,q1,q2,q3,q4,q5,q6,q7,q8⟩)
     refine hK.out _ _ ⟨trivial,fun _=>C9.out⟩ ?_
     clear hK K hg9 C8 hgR hw9 HG8
     try simp only [Act.put,sPa,sPb,sPc]
     have hM9:=HM4.out.grow HG9.out
     have hsrc:tD w9 2 (.slice (some ⟨gR,0,none⟩) 1 1) 1 [.string s1,.string s2]:=qBB hgn
     refine oneG (i:=9) (by kernel_rfl) rfl (fun K hK=>?_)
     refine oL rfl (.tmp 56) (.tmp 63) 104 rfl eN 3 _ rfl ⟨_,_,_,_,_,hM9.many (rS _) (fun _ h=>h),⟨P,140,.slice sU u cU,u,us,2⟩,1,u+1,_,rfl,rfl,rfl,rfl,hsrc,?z1,rfl,?z2,?z3,?z4,?_⟩
     case z1=>intro v hv;simp only [List.mem_cons,List.not_mem_nil,or_false] at hv;rcases hv with rfl|rfl <;> rfl
     case z2=>unfold maxLen;omega
     case z3=>show (u+1) * 32≤140737488355328;omega
     case z4=>show P≤w9.heap.size;have:=HG9.out.size;have:=zQ HBP4.out;omega
     intro sU' cU' wM hMM
     have hoF:∀ j,rS [⟨P,22,.slice sE m cE,m,hsE,1⟩,⟨P,3,.slice sP m cP,m,ints pre,1⟩,⟨P,3,.slice sL m cL,m,ints las,1⟩,⟨P,140,.slice sU u cU,u,us,2⟩] j→P≤j∧¬ X j∧j≠o∧j≠P:=fun j hj=>aE hM9 hj (fun r hr=>by
      simp only [List.mem_cons,List.not_mem_nil,or_false] at hr
      rcases hr with rfl|rfl|rfl|rfl <;> simp) hB9 (zE HBP4.out HG9.out (by simp))
     have hEM:=hM9.after hMM (fun j hj=>(hoF j hj).2.1)
     have kM:=hM9.keepMany hMM (fun j hj=>(hoF j hj).2.1)
     have hBM:=hMM.but.heap hB9 (fun hj=>(hoF o hj).2.2.1 rfl)
     have hBPM:=hMM.but.heap (zE HBP4.out HG9.out (by simp)) (fun hj=>(hoF P hj).2.2.2 rfl)
     have hgM:w.grownBy wM none:=hMM.but.grown (zG HGW4.out HG9.out (by simp)) (fun j hj=>.inr (by have:=(hoF j hj).1;have:=HPE.out;omega))
     have CM:Hid (wM.cell? ⟨o,0,none⟩=some (.int .i64 n)∧wM.cell? ⟨o,1,none⟩=some (.bool true)∧wM.cell? ⟨o,2,none⟩=some (.slice sa gs.length sc)∧wM.cell? ⟨o,3,none⟩=some (.slice sE m cE)∧wM.cell? ⟨o,4,none⟩=some (.slice sP m cP)∧wM.cell? ⟨o,5,none⟩=some (.slice sL m cL)∧wM.cell? ⟨o,6,none⟩=some (.slice none 0 0)∧wM.cell? ⟨o,7,none⟩=some (.slice sU u cU)∧wM.cell? ⟨o,8,none⟩=some (.int .i64 0)):=Kh (by
      obtain ⟨q0,q1,q2,q3,q4,q5,q6,q7,q8⟩:=zX hBM
      exact ⟨q0,q1,q2,q3,q4,q5,q6,q7,q8⟩)
     refine hK.out _ _ ⟨trivial,fun _=>CM.out⟩ ?_
     have k9:=HM4.out.keep HG9.out
     have hEX:=(HE4.out.kept k9 HG9.out.size).kept kM hMM.but.size
     have hGX:=(HGV4.out.kept k9 HG9.out.size).kept kM hMM.but.size
     have HEM:=Kh hEM;have HEX:=Kh hEX;have HGX:=Kh hGX;have HBM:=Kh hBM;have HBPM:=Kh hBPM;have HGM:=Kh hgM
     clear hK K C9 hM9 hMM hoF hEM kM hBM hBPM hgM k9 hEX hGX hB9 hsrc hgn HM4 HE4 HGV4 HV4 HBP4 HGW4 HG9 HB4
     try simp only [Act.put,sPa,sPb,sPc]
     refine takeC (i:=10) (v:=?_) rfl rfl (Or.inl ⟨by rfl,?_⟩) ⟨trivial,fun _=>CM.out⟩ ?_
     rotate_left
     ·(intro wz hz;(try dsimp only at hz);go_simp;(try with_reducible rfl))
     try simp only [Act.put,sPa,sPb,sPc]
     refine oneG (i:=11) (by kernel_rfl) rfl (fun K hK=>?_)
     have q7:=CM.out.2.2.2.2.2.2.2.1
     have f7:=zD HBM.out 7
     go_simp
     have hsS:=heap_setCell_same wM o 7 _ _ (.slice sU' (u+1) cU') HBM.out
     have hgS:=zH wM ⟨o,7,none⟩ (.slice sU' (u+1) cU')
     refine hK.out _ _ ⟨trivial,fun h=>by simp at h⟩ ?_
     clear hK K q7 f7 CM
     try simp only [Act.put,sPa,sPb,sPc]
     refine nW (by kernel_rfl) ?_ _
     refine NoPanic.normal ?_
     have kS:wY X wM _:=wY.of_grown HEM.out.lt hgS (fun j e hx=>by have e:o=j:=Oj e;subst e;exact HX.out.1 hx)
     have hgN:=zG HGM.out hgS (fun j e=>by have e:o=j:=Oj e;have:=HPE.out;omega)
     have hSN:StartS B P o n gs (.slice (some ⟨b0,o0,none⟩) gs.length c0) (.slice sa gs.length sc) w (x+1) (wM.setCell ⟨o,7,none⟩ (.slice sU' (u+1) cU')):=by
      refine .mk X els pre las m (u+1) (us ++ [Value.string s1,Value.string s2]) hsE sE cE sP cP sL cL sU' cU' ?_ hl hpl hll (by omega) (by omega) (fun v hv=>by
       rcases List.mem_append.1 hv with hv|hv
       ·exact HUS.out v hv
       ·simp only [List.mem_cons,List.not_mem_nil,or_false] at hv;rcases hv with rfl|rfl <;> rfl) (HEM.out.far hgS (fun r hr=>zS (HEM.out.own r hr) HBM.out (by
       simp only [List.set_cons_zero,List.set_cons_succ,List.mem_cons,List.not_mem_nil,or_false] at hr
       rcases hr with rfl|rfl|rfl|rfl <;> simp))) (HEX.out.kept kS hgS.size) (HGX.out.kept kS hgS.size) (HT00.out.kept hgN (by simp)) HX.out (by simpa using hsS) (zE HBPM.out hgS (by simp;omega)) hgN
      rw [yO,if_pos (by rw [HE0.out,← HF.out];exact hin)]
      exact HE0.out
     have HSN:=Kh hSN
     clear hSN kS hgN hsS hgS HEM HEX HGX HBM HBPM HGM
     go_wp2
     go_roundg (gs.length - (x+1))
     case measure=>have:=HGH.out;omega
     case rel=>exact ⟨x+1,by omega,by go_num,HSN.out⟩
    ·have hfT:mW els f = -1:=by unfold mW;rw [if_neg hin]
     rw [hfT]
     clear hfT
     obtain ⟨w4,hw4⟩:∃ w4,w4=(wr.drewN md).drew:=⟨_,rfl⟩
     have hg4:wr.grownBy w4 none:=by rw [hw4];exact zG (zJ wr md none) (zT _ none) (by simp)
     have HW4:=Kh hw4
     have HM4:=Kh (HM.out.grow hg4);have HB4:=Kh (zE HB9.out hg4 (by simp))
     have k4:=HM.out.keep hg4
     have HE4:=Kh (HE.out.kept k4 hg4.size);have HGV4:=Kh (HGV.out.kept k4 hg4.size);have HBP4:=Kh (zE HBP.out hg4 (by simp));have HGW4:=Kh (zG HGW.out hg4 (by simp))
     have hfr4:=HFR.out.kept hg4 (by simp)
     obtain ⟨FF,hFF⟩:∃ FF:Nat→Prop,FF=fun j=>rS [⟨P,22,.slice sE m cE,m,hsE,1⟩,⟨P,3,.slice sP m cP,m,ints pre,1⟩,⟨P,3,.slice sL m cL,m,ints las,1⟩,⟨P,140,.slice sU u cU,u,us,2⟩] j∨j=o:=⟨_,rfl⟩
     have hoF:∀ j,FF j→P≤j∧¬ X j∧j≠P:=fun j hj=>by
      rw [hFF] at hj
      rcases hj with hj|hj
      ·have:=aE HM4.out hj (fun r hr=>by
        simp only [List.mem_cons,List.not_mem_nil,or_false] at hr
        rcases hr with rfl|rfl|rfl|rfl <;> simp) HB4.out HBP4.out
       exact ⟨this.1,this.2.1,this.2.2.2⟩
      ·subst hj;exact ⟨by omega,HX.out.1,by omega⟩
     have HOF:=Kh hoF
     have hFo:Hid (FF o):=Kh (by rw [hFF];exact .inr rfl)
     have hoW:Hid (o < w4.heap.size):=Kh (zQ HB4.out)
     have hbase:Hid (P≤w4.heap.size):=Kh (Nat.le_of_lt (zQ HBP4.out))
     have HSR:Hid (∀ W:World,GrownBut w4 W FF→tD W 1 (.slice fa n fc) n (nats f)):=Kh (fun W hg=>by
      rcases hfr4 with ⟨e,e2⟩|⟨b,off,cap,cur,mm,e,e2,e3,e4,e5,e6⟩
      ·simp only [Value.slice.injEq] at e
       exact .inl ⟨fa,fc,by rw [e.2.1],e.2.1,e2⟩
      ·have hl:(nats f).length=n:=by rw [zN];exact HFT.out.1
       rw [hl] at e e3
       refine .inr ⟨b,off,cap,e,by omega,by omega,fun j u' hj=>?_⟩
       obtain ⟨hj1,hj2⟩:=List.getElem?_eq_some_iff.1 hj
       refine hg.cell ?_ (fun hb=>by have:=(HOF.out b hb).1;omega)
       rw [cell_of_row w4 b (off+j) _ _ _ e5,e6 j hj1,hj2])
     have HMN:Hid (Many w4 FF w4 [⟨P,22,.slice sE m cE,m,hsE,1⟩,⟨P,3,.slice sP m cP,m,ints pre,1⟩,⟨P,3,.slice sL m cL,m,ints las,1⟩,⟨P,140,.slice sU u cU,u,us,2⟩,⟨P,3,.slice none 0 0,0,[],1⟩] [] []):=Kh ((HM4.out.add (zW _ none) (r:=⟨P,3,.slice none 0 0,0,[],1⟩) (World.ownsRow_nil _ _ _ _) (fun j e=>by simp [Value.ownBlock] at e)).many FF (fun j hj=>by
      obtain ⟨r,hr,hk⟩:=hj
      rw [hFF]
      simp only [List.cons_append,List.nil_append,List.mem_cons,List.not_mem_nil,or_false] at hr
      rcases hr with rfl|rfl|rfl|rfl|rfl
      ·exact .inl ⟨_,by simp,hk⟩
      ·exact .inl ⟨_,List.Mem.tail _ (List.Mem.head _),hk⟩
      ·exact .inl ⟨_,List.Mem.tail _ (List.Mem.tail _ (List.Mem.head _)),hk⟩
      ·exact .inl ⟨_,List.Mem.tail _ (List.Mem.tail _ (List.Mem.tail _ (List.Mem.head _))),hk⟩
      ·simp [Value.ownBlock] at hk))
     obtain ⟨q0,q1,q2,q3,q4,q5,q6,q7,q8⟩:=zX HB4.out
     have C:=Kh (And.intro q3 (And.intro q4 q5))
     clear hw4 hg4 k4 HM HB9 HE HGV HV HBP HGW q0 q1 q2 q3 q4 q5 q6 q7 q8 hFF hoF hfr4 HFR
     go_upto_region 16 with fail
     refine wp_region_noPanic ?_
     refine yY (G:=vV 18 (fun _=>True) (fun W=>W.cell? ⟨o,3,none⟩=some (.slice sE m cE)∧W.cell? ⟨o,4,none⟩=some (.slice sP m cP)∧W.cell? ⟨o,5,none⟩=some (.slice sL m cL))) (by kernel_rfl) ?_
     rw [← HW4.out]
     refine takeC (i:=0) (v:=?_) rfl rfl (Or.inl ⟨by rfl,?_⟩) ⟨trivial,fun _=>C.out⟩ ?_
     rotate_left
     ·(intro wz hz;(try dsimp only at hz);go_simp;(try with_reducible rfl))
     try simp only [Act.put,sPa,sPb,sPc]
     refine takeD (i:=1) (v:=?_) rfl rfl (Or.inl ⟨by rfl,?_⟩) ⟨trivial,fun _=>C.out⟩ ?_
     rotate_left
     ·(rintro wz ⟨-,hz⟩;(try dsimp only at hz);go_simp;(try with_reducible rfl))
     try simp only [Act.put,sPa,sPb,sPc]
     refine takeC (i:=3) (v:=?_) rfl rfl (Or.inl ⟨by rfl,?_⟩) ⟨trivial,fun _=>C.out⟩ ?_
     rotate_left
     ·(intro wz hz;(try dsimp only at hz);go_simp;(try with_reducible rfl))
     try simp only [Act.put,sPa,sPb,sPc]
     refine takeC (i:=7) (v:=?_) rfl rfl (Or.inl ⟨by rfl,?_⟩) ⟨trivial,fun _=>C.out⟩ ?_
     rotate_left
     ·(intro wz hz;(try dsimp only at hz);go_simp;(try with_reducible rfl))
     try simp only [Act.put,sPa,sPb,sPc]
     refine takeD (i:=8) (v:=?_) rfl rfl (Or.inl ⟨by rfl,?_⟩) ⟨trivial,fun _=>C.out⟩ ?_
     rotate_left
     ·(rintro wz ⟨-,hz⟩;(try dsimp only at hz);go_simp;(try with_reducible rfl))
     try simp only [Act.put,sPa,sPb,sPc]
     refine takeC (i:=9) (v:=?_) rfl rfl (Or.inl ⟨by rfl,?_⟩) ⟨trivial,fun _=>C.out⟩ ?_
     rotate_left
     ·(intro wz hz;(try dsimp only at hz);go_simp;(try with_reducible rfl))
     try simp only [Act.put,sPa,sPb,sPc]
     refine takeC (i:=12) (v:=?_) rfl rfl (Or.inl ⟨by rfl,?_⟩) ⟨trivial,fun _=>C.out⟩ ?_
     rotate_left
     ·(intro wz hz;(try dsimp only at hz);go_simp;(try with_reducible rfl))
     try simp only [Act.put,sPa,sPb,sPc]
     refine takeD (i:=13) (v:=?_) rfl rfl (Or.inl ⟨by rfl,?_⟩) ⟨trivial,fun _=>C.out⟩ ?_
     rotate_left
     ·(rintro wz ⟨-,hz⟩;(try dsimp only at hz);go_simp;(try with_reducible rfl))
     try simp only [Act.put,sPa,sPb,sPc]
     refine takeC (i:=14) (v:=?_) rfl rfl (Or.inl ⟨by rfl,?_⟩) ⟨trivial,fun _=>C.out⟩ ?_
     rotate_left
     ·(intro wz hz;(try dsimp only at hz);go_simp;(try with_reducible rfl))
     try simp only [Act.put,sPa,sPb,sPc]
     refine tF (fun Wp hWp a0 ha0=>?_)
     subst hWp
     simp only [Act.put,List.getElem_toArray,List.getElem_cons_zero,List.getElem_cons_succ,sPa,sPb,sPc] at ha0
     have HA0:=Kh ha0
     refine tE (I:=start16I n P o m u x f pre las us hsE sE cE sP cP sL cL sU cU (.slice sa gs.length sc) w4 FF a0) (fun l a w h=>start16_G h) (start16_steps ha0 h32 (by omega) hbase.out hFo.out hoW.out HSR.out) (by kernel_rfl) ?hend (by decide +kernel) ?hinit
     case hinit =>
      clear ha0
      refine ⟨a0.tmps.getD 68 undef,a0.tmps.getD 70 undef,a0.tmps.getD 71 undef,a0.tmps.getD 72 undef,a0.tmps.getD 76 undef,a0.tmps.getD 77 undef,a0.tmps.getD 81 undef,a0.tmps.getD 82 undef,a0.tmps.getD 83 undef,a0.tmps.getD 84 undef,a0.tmps.getD 85 undef,.slice sE m cE,m,hsE,.slice sP m cP,m,ints pre,.slice sL m cL,m,ints las,.slice none 0 0,0,[],[],.slice sE m cE,.slice sP m cP,.slice sL m cL,(uI (by simp)).symm,by decide +kernel,Kh (fun _=>⟨rfl,rfl,rfl⟩),Kh (fun h=>absurd h (by decide +kernel)),Kh (fun h=>absurd h (by decide +kernel)),Kh (fun h=>absurd h (by decide +kernel)),Kh (fun _=>⟨rfl,rfl,rfl⟩),Kh (fun h=>absurd h (by decide +kernel)),Kh (fun h=>absurd h (by decide +kernel)),Kh (fun _=>⟨rfl,rfl,rfl⟩),Kh (fun h=>absurd h (by decide +kernel)),Kh (fun h=>absurd h (by decide +kernel)),Kh (fun _=>⟨rfl,rfl,rfl⟩),Kh (fun h=>absurd h (by decide +kernel)),Kh (fun h=>absurd h (by decide +kernel)),Kh (fun h=>absurd h (by decide +kernel)),Kh (fun h=>absurd h (by decide +kernel)),Kh (fun _=>rfl),Kh (fun h=>absurd h (by decide +kernel)),Kh (fun _=>rfl),Kh (fun h=>absurd h (by decide +kernel)),Kh (fun _=>rfl),Kh (fun h=>absurd h (by decide +kernel)),HB4.out,HMN.out⟩
     case hend =>
      clear ha0
      intro l a w6 h hall
      obtain ⟨x68,x70,x71,x72,x76,x77,x81,x82,x83,x84,x85,vE,nE,xE,vP,nP,xP,vL,nL,xL,vF,nF,xF,ls,c3,c4,c5,ha,HR,H2n,H2,H4,H5,H6n,H6,H10,H11n,H11,H15,H16n,H16,H17,H19,H21,B3n,B3,B4n,B4,B5n,B5,HB,HM⟩:=h
      obtain ⟨_,s4,c4',rfl,rfl,hn4,rfl⟩:=H4.out (hall 4 (by decide))
      obtain ⟨_,s6,c6,rfl,rfl,rfl,rfl⟩:=H6.out (hall 6 (by decide))
      obtain ⟨_,s11,c11,rfl,rfl,rfl,rfl⟩:=H11.out (hall 11 (by decide))
      obtain ⟨_,s16,c16,rfl,rfl,rfl,rfl⟩:=H16.out (hall 16 (by decide))
      have e3:=(B3.out (hall 18 (by decide))).2.2
      have e4:=(B4.out (hall 20 (by decide))).2.2
      have e5:=(B5.out (hall 22 (by decide))).2.2
      subst hn4
      rw [e3,e4,e5] at HB
      clear H2n H2 H4 H5 H6n H6 H10 H11n H11 H15 H16n H16 H17 H19 H21 B3n B3 B4n B4 B5n B5 HR e3 e4 e5
      subst ha
      rw [HA0.out]
      simp only [zL,List.foldl_cons,List.foldl_nil,Act.put,sPa,sPb,sPc]
      refine NoPanic.normal ?_
     
      have hEM5:EMem X w6 ([⟨P,22,.slice s6 (m+1) c6,m+1,hsE ++ [.slice s4 n c4'],1⟩,⟨P,3,.slice s11 (m+1) c11,m+1,ints pre ++ [.int .i64 0],1⟩,⟨P,3,.slice s16 (m+1) c16,m+1,ints las ++ [.int .i64 (x:Int)],1⟩,⟨P,140,.slice sU u cU,u,us,2⟩] ++ [⟨P,3,.slice s4 n c4',n,nats f,1⟩]):=HM4.out.after HM (fun j hj=>(HOF.out j hj).2.1)
      have hER:=hEM5.retire
      have kM:=HM4.out.keepMany HM (fun j hj=>(HOF.out j hj).2.1)
      have hF5:=HM.own 4 _ rfl
      simp only at hF5
      have hBP6:=HM.but.heap HBP4.out (fun hj=>(HOF.out P hj).2.2 rfl)
      have hg6:w.grownBy w6 none:=HM.but.grown HGW4.out (fun j hj=>.inr (by have:=(HOF.out j hj).1;have:=HPE.out;omega))
      have hSN:StartS B P o n gs (.slice (some ⟨b0,o0,none⟩) gs.length c0) (.slice sa gs.length sc) w (x+1) w6:=by
       refine .mk (fun j=>X j∨(Value.slice s4 n c4').ownBlock=some j) (els ++ [f]) (pre ++ [0]) (las ++ [(x:Int)]) (m+1) u us (hsE ++ [Value.slice s4 n c4']) s6 c6 s11 c11 s16 c16 sU cU ?_ (by simp [hl]) (by simp [hpl]) (by simp [hll]) (by omega) (by omega) HUS.out ?_ (((HE4.out.kept kM HM.but.size).mono (fun j hj=>.inl hj)).snoc (RowX.of_owns hF5 (fun j hj=>.inr hj))) ((HGV4.out.kept kM HM.but.size).mono (fun j hj=>.inl hj)) (HT00.out.kept hg6 (by simp)) ⟨fun hx=>?_,fun hx=>?_⟩ HB hBP6 hg6
       ·rw [yO,if_neg (by rw [HE0.out,← HF.out];exact hin),HE0.out,← HF.out]
       ·rw [show ints (pre ++ [0])=ints pre ++ [.int .i64 0] by simp [ints],show ints (las ++ [(x:Int)])=ints las ++ [.int .i64 (x:Int)] by simp [ints]]
        exact hER
       ·rcases hx with hx|hx
        ·exact HX.out.1 hx
        ·exact zS hF5 HB (by decide) hx
       ·rcases hx with hx|hx
        ·exact HX.out.2 hx
        ·exact zS hF5 hBP6 (by decide) hx
      have HSN:=Kh hSN
      clear hSN hEM5 hER kM hF5 hBP6 hg6 HM HB
      go_wp2
      go_roundg (gs.length - (x+1))
      case measure=>have:=HGH.out;omega
      case rel=>exact ⟨x+1,by omega,by go_num,HSN.out⟩
   ·have hxe:x=gs.length:=by have:=HGH.out;omega
    subst hxe
    obtain ⟨q0,q1,q2,q3,q4,q5,q6,q7,q8⟩:=zX hB9
    obtain ⟨p0,p1,p2,p3,p4,p5,p6,p7,p8⟩:=zX hBP
    have f0:=zD hBP 0;have f1:=zD hBP 1;have f2:=zD hBP 2;have f3:=zD hBP 3;have f4:=zD hBP 4;have f5:=zD hBP 5;have f6:=zD hBP 6;have f7:=zD hBP 7;have f8:=zD hBP 8
    have HE0:=Kh he;have HM:=Kh hM;have HE:=Kh hE;have HGV:=Kh hG;have HX:=Kh hX;have HBP:=Kh hBP;have HGW:=Kh hgw
    have HL3:=Kh (And.intro hl (And.intro hpl hll))
    clear he hM hE hG hV hX hB9 hBP hgw hl hpl hll
    go_wp2
    refine bodyPost_ret (v:=.tuple #[.agg #[.int .i64 n,.bool true,.slice sa gs.length sc,.slice sE m cE,.slice sP m cP,.slice sL m cL,.slice none 0 0,.slice sU u cU,.int .i64 0],.int .i64 0]) (by simp [results,Tryd.results104,go_sem,p0,p1,p2,p3,p4,p5,p6,p7,p8]) rfl ?_
    obtain ⟨hsZ,hgZ⟩:=pY HBP.out (.int .i64 n) (.bool true) (.slice sa gs.length sc) (.slice sE m cE) (.slice sP m cP) (.slice sL m cL) (.slice none 0 0) (.slice sU u cU) (.int .i64 0)
    have kk:wY X wr _:=wY.of_grown HM.out.lt hgZ (fun j e hx=>by have e:P=j:=Oj e;subst e;exact HX.out.2 hx)
    refine ⟨X,els,pre,las,m,u,us,hsE,.slice sa gs.length sc,sE,cE,sP,cP,sL,cL,sU,cU,rfl,HE0.out,HL3.out.1,HL3.out.2.1,HL3.out.2.2,by omega,HUS.out,?_,HE.out.kept kk hgZ.size,HGV.out.kept kk hgZ.size,zG HGW.out hgZ (fun j e=>by have e:P=j:=Oj e;have:=HPE.out;omega)⟩
    rw [← HPE.out]
    exact HM.out.far hgZ (fun r hr=>zS (HM.out.own r hr) HBP.out (by
     simp only [List.mem_cons,List.not_mem_nil,or_false] at hr
     rcases hr with rfl|rfl|rfl|rfl <;> simp))
end Go.Proofs.YtdjhoadoiknaoaaDoor
