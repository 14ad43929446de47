/- Part 14 of the proof: EStart0. -/
import Derived.Test.YtdjhoadoiknaoaaDoorZD13
set_option linter.unusedVariables false
set_option linter.unusedSimpArgs false
namespace Go.Proofs.YtdjhoadoiknaoaaDoor
open Go.RowKit
def yO (gs:List (List Nat)) (n:Nat):Nat→List (List Nat) × List Int × List Int
 | 0=>([List.range n],[-1],[-1])
 | x+1=>if gs.getD x []∈(yO gs n x).1 then yO gs n x else ((yO gs n x).1 ++ [gs.getD x []],(yO gs n x).2.1 ++ [0],(yO gs n x).2.2 ++ [(x:Int)])
theorem pY {w:World} {p e:Nat} {z0 z1 z2 z3 z4 z5 z6 z7 z8:Value} (h:w.heap[p]?=some (.cells #[z0,z1,z2,z3,z4,z5,z6,z7,z8] e (0,0))) (x0 x1 x2 x3 x4 x5 x6 x7 x8:Value) :
  (((((((((w.setCell ⟨p,0,none⟩ x0).setCell ⟨p,1,none⟩ x1).setCell ⟨p,2,none⟩ x2).setCell ⟨p,3,none⟩ x3).setCell ⟨p,4,none⟩ x4).setCell ⟨p,5,none⟩ x5).setCell ⟨p,6,none⟩ x6).setCell ⟨p,7,none⟩ x7).setCell ⟨p,8,none⟩ x8).heap[p]?=some (.cells #[x0,x1,x2,x3,x4,x5,x6,x7,x8] e (0,0)) ∧
  w.grownBy (((((((((w.setCell ⟨p,0,none⟩ x0).setCell ⟨p,1,none⟩ x1).setCell ⟨p,2,none⟩ x2).setCell ⟨p,3,none⟩ x3).setCell ⟨p,4,none⟩ x4).setCell ⟨p,5,none⟩ x5).setCell ⟨p,6,none⟩ x6).setCell ⟨p,7,none⟩ x7).setCell ⟨p,8,none⟩ x8) (some p):=by
 have s0:=heap_setCell_same w p 0 _ _ x0 h
 have s1:=heap_setCell_same _ p 1 _ _ x1 s0
 have s2:=heap_setCell_same _ p 2 _ _ x2 s1
 have s3:=heap_setCell_same _ p 3 _ _ x3 s2
 have s4:=heap_setCell_same _ p 4 _ _ x4 s3
 have s5:=heap_setCell_same _ p 5 _ _ x5 s4
 have s6:=heap_setCell_same _ p 6 _ _ x6 s5
 have s7:=heap_setCell_same _ p 7 _ _ x7 s6
 have s8:=heap_setCell_same _ p 8 _ _ x8 s7
 refine ⟨by rw [s8];simp,?_⟩
 have t:=fun (W:World) (i:Nat) (u:Value)=>zH W ⟨p,i,none⟩ u
 exact zF (zF (zF (zF (zF (zF (zF (zF (t _ 0 _) (t _ 1 _)) (t _ 2 _)) (t _ 3 _)) (t _ 4 _)) (t _ 5 _)) (t _ 6 _)) (t _ 7 _)) (t _ 8 _)
theorem OwnT.other {base n:Nat} {w w':World} {v:Value} {ts:List (List Nat)} {r e:Nat} {c:Array Value} {m:Nat × Nat} (h:OwnT base w v n ts) (hg:w.grownBy w' (some r)) (hr:w.heap[r]?=some (.cells c e m)) (h1:e≠22) (h2:e≠3):OwnT base w' v n ts:=by
 obtain ⟨hs,h3,h4,h5⟩:=h
 exact ⟨hs,h3.kept hg (.inr (zS h3 hr (Ne.symm h1))),(h4.kept hg (fun k e=>.inr (by have e:=Oj e;subst e;exact ⟨_,_,_,hr,h2⟩))).mono hg.size,h5⟩
inductive start5I (n b0 o0:Nat) (gs:List (List Nat)) (hv:Value) (vg:Value) (w5:World) (a0:Act) (l:Array Bool) (a:Act) (w:World):Prop
 | mk (x30:Value) (x31:Value) (x6:Value) (o:Nat) (ha:a=zL a0 [(30,x30),(31,x31),(6,x6)]) (HR:∀ j∈[0,1,2,3,4,5],l.getD j true=true) (H6:Hid (l.getD 6 true=true→∃ sa sc,x30=.slice sa gs.length sc∧OwnT 0 w (.slice sa gs.length sc) gs.length gs)) (H7:Hid (l.getD 7 true=true→l.getD 6 true=true∧x31=.agg #[.int .i64 n,.bool true,x30,.slice none 0 0,.slice none 0 0,.slice none 0 0,.slice none 0 0,.slice none 0 0,.int .i64 0])) (H8:Hid (l.getD 8 true=true→x6=.pointer (some ⟨o,0,none⟩)∧w5.heap.size≤o)) (B1:Hid (l.getD 8 true=true→(l.getD 9 true=false→w.heap[o]?=some (.cells #[.int .i64 0,.bool false,.slice none 0 0,.slice none 0 0,.slice none 0 0,.slice none 0 0,.slice none 0 0,.slice none 0 0,.int .i64 0] 106 (0,0))))) (B2:Hid (l.getD 9 true=true→l.getD 6 true=true∧l.getD 8 true=true∧w.heap[o]?=some (.cells #[.int .i64 n,.bool true,x30,.slice none 0 0,.slice none 0 0,.slice none 0 0,.slice none 0 0,.slice none 0 0,.int .i64 0] 106 (0,0)))) (HG:(w5.grownBy w none))
theorem start5_G {n b0 o0:Nat} {gs:List (List Nat)} {hv:Value} {vg:Value} {w5:World} {a0:Act} {l:Array Bool} {a:Act} {w:World} (hc:w5.cell? ⟨b0,o0,none⟩=some hv) (h:start5I n b0 o0 gs hv vg w5 a0 l a w):vV 9 (fun _=>True) (fun W=>W.cell? ⟨b0,o0,none⟩=some hv) l w:=by
 obtain ⟨x30,x31,x6,o,ha,HR,H6,H7,H8,B1,B2,HG⟩:=h
 exact ⟨trivial,fun _=>yD hc HG⟩
theorem lK {n b0 o0:Nat} {gs:List (List Nat)} {hv:Value} {vg:Value} {w5:World} {a0:Act} {l:Array Bool} {a:Act} {w:World} (h:start5I n b0 o0 gs hv vg w5 a0 l a w):∀ j∈[0,1,2,3,4,5],l.getD j true=true:=by
 obtain ⟨x30,x31,x6,o,ha,HR,H6,H7,H8,B1,B2,HG⟩:=h
 exact HR
set_option maxRecDepth 100000 in
set_option maxHeartbeats 8000000 in
theorem start5_steps {n b0 o0:Nat} {gs:List (List Nat)} {hv:Value} {vg:Value} {w5:World} {v0 v1 v2 v3 v4 v5 v6 v7 v8 v9 v10 v11 v12 v13 v14 v15 v16 v17 v18 v19 v20 v21 v22 v23 v30 v31 v32 v33 v34 v35 v36 v37 v38 v39 v40 v41 v42 v43 v44 v45 v46 v47 v48 v49 v50 v51 v52 v53 v54 v55 v56 v57 v58 v59 v60 v61 v62 v63 v64 v65 v66 v67 v68 v69 v70 v71 v72 v73 v74 v75 v76 v77 v78 v79 v80 v81 v82 v83 v84 v85 v86 v87:Value} {dd:_} {a0:Act} (ha0:a0=⟨#[v0,v1,v2,v3,v4,v5,v6,v7,v8,v9,v10,v11,v12,v13,v14,v15,v16,v17,v18,v19,v20,v21,v22,v23,vg,.pointer (some ⟨b0,o0,none⟩),hv,.int .i64 n,.bool true,vg,v30,v31,v32,v33,v34,v35,v36,v37,v38,v39,v40,v41,v42,v43,v44,v45,v46,v47,v48,v49,v50,v51,v52,v53,v54,v55,v56,v57,v58,v59,v60,v61,v62,v63,v64,v65,v66,v67,v68,v69,v70,v71,v72,v73,v74,v75,v76,v77,v78,v79,v80,v81,v82,v83,v84,v85,v86,v87],dd⟩) (HCP:∀ W:World,w5.grownBy W none→Calls Tryd.prog 115 #[vg] W (eZ W gs)) (ops7:Array Oper) (Q7:Exit→Act→World→Prop):oX (gG Tryd.prog .any ops7 Q7 (start5I n b0 o0 gs hv vg w5 a0)) 0 (qV Tryd.f104 5).toList:=by
 refine ⟨?s0,?s1,?s2,?s3,?s4,?s5,?s6,?s7,?s8,?s9,trivial⟩
 case s0 =>
  exact fun l a w h hun=>absurd (lK h 0 (by simp)) (by rw [hun];simp)
 case s1 =>
  exact fun l a w h hun=>absurd (lK h 1 (by simp)) (by rw [hun];simp)
 case s2 =>
  exact fun l a w h hun=>absurd (lK h 2 (by simp)) (by rw [hun];simp)
 case s3 =>
  exact fun l a w h hun=>absurd (lK h 3 (by simp)) (by rw [hun];simp)
 case s4 =>
  exact fun l a w h hun=>absurd (lK h 4 (by simp)) (by rw [hun];simp)
 case s5 =>
  exact fun l a w h hun=>absurd (lK h 5 (by simp)) (by rw [hun];simp)
 case s6 =>
  intro l a w h hun hdep K hK
  obtain ⟨x30,x31,x6,o,ha,HR,H6,H7,H8,B1,B2,HG⟩:=h
  subst ha
  rw [ha0]
  simp only [zL,List.foldl_cons,List.foldl_nil,Act.put,sPa,sPb,sPc]
  go_simp
  go_at_call 115
  refine (HCP w HG).mono ?_
  rintro e w6 ⟨sa,sc,rfl,hown,hg6⟩
  refine hK.out _ _ ?_
  refine ⟨(.slice sa gs.length sc),x31,x6,o,?fa6,fun j hj=>zB (HR j hj),Kh (fun _=>⟨sa,sc,rfl,hown.base (Nat.zero_le _)⟩),Kh (fun h=>absurd (H7.out (zA (by decide) h)).1 (by rw [hun];simp)),Kh (fun h=>H8.out (zA (by decide) h)),Kh (fun h h9=>zE (B1.out (zA (by decide) h) (zC h9)) hg6 (by simp)),Kh (fun h=>absurd (B2.out (zA (by decide) h)).1 (by rw [hun];simp)),zG HG hg6 (by simp)⟩
  case fa6=>rw [ha0];simp only [zL,List.foldl_cons,List.foldl_nil,Act.put,sPa,sPb,sPc]
 case s7 =>
  intro l a w h hun hdep K hK
  obtain ⟨x30,x31,x6,o,ha,HR,H6,H7,H8,B1,B2,HG⟩:=h
  have DH6:=H6.out (zK (hdep ⟨6,.data⟩ (by simp) rfl))
  obtain ⟨sa,sc,rfl,hown⟩:=DH6
  subst ha
  rw [ha0]
  simp only [zL,List.foldl_cons,List.foldl_nil,Act.put,sPa,sPb,sPc]
  go_simp
  refine hK.out _ _ ?_
  refine ⟨(.slice sa gs.length sc),(.agg #[.int .i64 n,.bool true,.slice sa gs.length sc,.slice none 0 0,.slice none 0 0,.slice none 0 0,.slice none 0 0,.slice none 0 0,.int .i64 0]),x6,o,?fa7,fun j hj=>zB (HR j hj),Kh (fun _=>⟨sa,sc,rfl,hown⟩),Kh (fun _=>⟨zB (zK (hdep ⟨6,.data⟩ (by simp) rfl)),rfl⟩),Kh (fun h=>H8.out (zA (by decide) h)),Kh (fun h h9=>B1.out (zA (by decide) h) (zC h9)),Kh (fun h=>⟨zB (B2.out (zA (by decide) h)).1,zB (B2.out (zA (by decide) h)).2.1,(B2.out (zA (by decide) h)).2.2⟩),HG⟩
  case fa7=>rw [ha0];simp only [zL,List.foldl_cons,List.foldl_nil,Act.put,sPa,sPb,sPc]
 case s8 =>
  intro l a w h hun hdep K hK
  obtain ⟨x30,x31,x6,o,ha,HR,H6,H7,H8,B1,B2,HG⟩:=h
  subst ha
  rw [ha0]
  simp only [zL,List.foldl_cons,List.foldl_nil,Act.put,sPa,sPb,sPc]
  go_simp
  refine hK.out _ _ ?_
  refine ⟨x30,x31,(.pointer (some ⟨w.heap.size,0,none⟩)),w.heap.size,?fa8,fun j hj=>zB (HR j hj),Kh (fun h=>let ⟨sa,sc,e,ho⟩:=H6.out (zA (by decide) h);⟨sa,sc,e,ho.grow (Ga w (.cells #[.int .i64 0,.bool false,.slice none 0 0,.slice none 0 0,.slice none 0 0,.slice none 0 0,.slice none 0 0,.slice none 0 0,.int .i64 0] 106) none)⟩),Kh (fun h=>⟨zB (H7.out (zA (by decide) h)).1,(H7.out (zA (by decide) h)).2⟩),Kh (fun _=>⟨rfl,HG.size⟩),Kh (fun _ _=>heap_alloc_new w _),Kh (fun h=>absurd (B2.out (zA (by decide) h)).2.1 (by rw [hun];simp)),zG HG (Ga w (.cells #[.int .i64 0,.bool false,.slice none 0 0,.slice none 0 0,.slice none 0 0,.slice none 0 0,.slice none 0 0,.slice none 0 0,.int .i64 0] 106) none) (by simp)⟩
  case fa8=>rw [ha0];simp only [zL,List.foldl_cons,List.foldl_nil,Act.put,sPa,sPb,sPc]
 case s9 =>
  intro l a w h hun hdep K hK
  obtain ⟨x30,x31,x6,o,ha,HR,H6,H7,H8,B1,B2,HG⟩:=h
  have DH8:=H8.out (zK (hdep ⟨8,.data⟩ (by simp) rfl))
  have DB1:=B1.out (zK (hdep ⟨8,.data⟩ (by simp) rfl))
  have DH7:=H7.out (zK (hdep ⟨7,.data⟩ (by simp) rfl))
  have DH6:=H6.out (zK (hdep ⟨6,.chain⟩ (by simp) rfl))
  obtain ⟨rfl,ho⟩:=DH8
  obtain ⟨sa,sc,rfl,hown⟩:=DH6
  obtain ⟨hd6,rfl⟩:=DH7
  have hd8:=zK (hdep ⟨8,.data⟩ (by simp) rfl)
  have hb:=DB1 hun
  subst ha
  rw [ha0]
  simp only [zL,List.foldl_cons,List.foldl_nil,Act.put,sPa,sPb,sPc]
  obtain ⟨k0,k1,k2,k3,k4,k5,k6,k7,k8⟩:=zX hb
  have f0:=zD hb 0;have f1:=zD hb 1;have f2:=zD hb 2;have f3:=zD hb 3;have f4:=zD hb 4;have f5:=zD hb 5;have f6:=zD hb 6;have f7:=zD hb 7;have f8:=zD hb 8
  go_simp
  obtain ⟨hs9,hg9⟩:=pY hb (.int .i64 n) (.bool true) (.slice sa gs.length sc) (.slice none 0 0) (.slice none 0 0) (.slice none 0 0) (.slice none 0 0) (.slice none 0 0) (.int .i64 0)
  refine hK.out _ _ ?_
  refine ⟨(.slice sa gs.length sc),(.agg #[.int .i64 n,.bool true,.slice sa gs.length sc,.slice none 0 0,.slice none 0 0,.slice none 0 0,.slice none 0 0,.slice none 0 0,.int .i64 0]),(.pointer (some ⟨o,0,none⟩)),o,?fa9,fun j hj=>zB (HR j hj),Kh (fun _=>⟨sa,sc,rfl,hown.other hg9 hb (by decide) (by decide)⟩),Kh (fun _=>⟨zB hd6,rfl⟩),Kh (fun _=>⟨rfl,ho⟩),Kh (fun _ h9=>yB h9),Kh (fun _=>⟨zB hd6,zB hd8,hs9⟩),zG HG hg9 (fun q e=>by have e:o=q:=Oj e;omega)⟩
  case fa9=>rw [ha0];simp only [zL,List.foldl_cons,List.foldl_nil,Act.put,sPa,sPb,sPc]
inductive start16I (n P o m u x:Nat) (f:List Nat) (pre las:List Int) (us hsE:List Value) (sE:Option Addr) (cE:Nat) (sP:Option Addr) (cP:Nat) (sL:Option Addr) (cL:Nat) (sU:Option Addr) (cU:Nat) (gv:Value) (w4:World) (FF:Nat→Prop) (a0:Act) (l:Array Bool) (a:Act) (w:World):Prop
 | mk (x68:Value) (x70:Value) (x71:Value) (x72:Value) (x76:Value) (x77:Value) (x81:Value) (x82:Value) (x83:Value) (x84:Value) (x85:Value) (vE:Value) (nE:Nat) (xE:List Value) (vP:Value) (nP:Nat) (xP:List Value) (vL:Value) (nL:Nat) (xL:List Value) (vF:Value) (nF:Nat) (xF:List Value) (ls:List (Nat × Obj)) (c3:Value) (c4:Value) (c5:Value) (ha:a=zL a0 [(68,x68),(70,x70),(71,x71),(72,x72),(76,x76),(77,x77),(81,x81),(82,x82),(83,x83),(84,x84),(85,x85)]) (HR:∀ j∈[0,1,3,7,8,9,12,13,14],l.getD j true=true) (H2n:Hid (l.getD 2 true=false→vF=.slice none 0 0∧nF=0∧xF=[])) (H2:Hid (l.getD 2 true=true→(l.getD 4 true=false→∃ g,x68=.slice (some ⟨g,0,none⟩) 0 0∧vF=.slice (some ⟨g,0,none⟩) 0 0∧nF=0∧xF=[]))) (H4:Hid (l.getD 4 true=true→l.getD 2 true=true∧∃ sa sc,x70=.slice sa n sc∧vF=.slice sa n sc∧n=nF∧xF=nats f)) (H5:Hid (l.getD 5 true=true→l.getD 4 true=true∧∃ g,x71=.slice (some ⟨g,0,none⟩) 1 1∧(g,Obj.cells #[vF] 22 (0,0))∈ls)) (H6n:Hid (l.getD 6 true=false→vE=.slice sE m cE∧m=nE∧hsE=xE)) (H6:Hid (l.getD 6 true=true→l.getD 4 true=true∧∃ sa sc,vE=.slice sa (m+1) sc∧x72=.slice sa (m+1) sc∧nE=m+1∧xE=hsE ++ [vF])) (H10:Hid (l.getD 10 true=true→∃ g,x76=.slice (some ⟨g,0,none⟩) 1 1∧(g,Obj.cells #[.int .i64 0] 3 (0,0))∈ls)) (H11n:Hid (l.getD 11 true=false→vP=.slice sP m cP∧m=nP∧xP=ints pre)) (H11:Hid (l.getD 11 true=true→l.getD 6 true=true∧∃ sa sc,vP=.slice sa (m+1) sc∧x77=.slice sa (m+1) sc∧nP=m+1∧xP=ints pre ++ [.int .i64 0])) (H15:Hid (l.getD 15 true=true→∃ g,x81=.slice (some ⟨g,0,none⟩) 1 1∧(g,Obj.cells #[.int .i64 x] 3 (0,0))∈ls)) (H16n:Hid (l.getD 16 true=false→vL=.slice sL m cL∧m=nL∧xL=ints las)) (H16:Hid (l.getD 16 true=true→l.getD 11 true=true∧∃ sa sc,vL=.slice sa (m+1) sc∧x82=.slice sa (m+1) sc∧nL=m+1∧xL=ints las ++ [.int .i64 x])) (H17:Hid (l.getD 17 true=true→x83=.pointer (some ⟨o,3,none⟩))) (H19:Hid (l.getD 19 true=true→x84=.pointer (some ⟨o,4,none⟩))) (H21:Hid (l.getD 21 true=true→x85=.pointer (some ⟨o,5,none⟩))) (B3n:Hid (l.getD 18 true=false→c3=.slice sE m cE)) (B3:Hid (l.getD 18 true=true→l.getD 6 true=true∧l.getD 16 true=true∧c3=vE)) (B4n:Hid (l.getD 20 true=false→c4=.slice sP m cP)) (B4:Hid (l.getD 20 true=true→l.getD 11 true=true∧l.getD 18 true=true∧c4=vP)) (B5n:Hid (l.getD 22 true=false→c5=.slice sL m cL)) (B5:Hid (l.getD 22 true=true→l.getD 16 true=true∧l.getD 20 true=true∧c5=vL)) (HB:(w.heap[o]?=some (.cells #[.int .i64 n,.bool true,gv,c3,c4,c5,.slice none 0 0,.slice sU u cU,.int .i64 0] 106 (0,0)))) (HM:(Many w4 FF w [⟨P,22,vE,nE,xE,1⟩,⟨P,3,vP,nP,xP,1⟩,⟨P,3,vL,nL,xL,1⟩,⟨P,140,.slice sU u cU,u,us,2⟩,⟨P,3,vF,nF,xF,1⟩] ls []))
theorem start16_G {n P o m u x:Nat} {f:List Nat} {pre las:List Int} {us hsE:List Value} {sE:Option Addr} {cE:Nat} {sP:Option Addr} {cP:Nat} {sL:Option Addr} {cL:Nat} {sU:Option Addr} {cU:Nat} {gv:Value} {w4:World} {FF:Nat→Prop} {a0:Act} {l:Array Bool} {a:Act} {w:World} (h:start16I n P o m u x f pre las us hsE sE cE sP cP sL cL sU cU gv w4 FF a0 l a w):vV 18 (fun _=>True) (fun W=>W.cell? ⟨o,3,none⟩=some (.slice sE m cE)∧W.cell? ⟨o,4,none⟩=some (.slice sP m cP)∧W.cell? ⟨o,5,none⟩=some (.slice sL m cL)) l w:=by
 obtain ⟨x68,x70,x71,x72,x76,x77,x81,x82,x83,x84,x85,vE,nE,xE,vP,nP,xP,vL,nL,xL,vF,nF,xF,ls,c3,c4,c5,ha,HR,H2n,H2,H4,H5,H6n,H6,H10,H11n,H11,H15,H16n,H16,H17,H19,H21,B3n,B3,B4n,B4,B5n,B5,HB,HM⟩:=h
 obtain ⟨k0,k1,k2,k3,k4,k5,k6,k7,k8⟩:=zX HB
 refine ⟨trivial,fun h18=>?_⟩
 have h20:l.getD 20 true=false:=by
  rcases h20:l.getD 20 true with _|_
  ·rfl
  ·have:=(B4.out h20).2.1
   rw [h18] at this;cases this
 have h22:l.getD 22 true=false:=by
  rcases h22:l.getD 22 true with _|_
  ·rfl
  ·have:=(B5.out h22).2.1
   rw [h20] at this;cases this
 rw [B3n.out h18] at k3;rw [B4n.out h20] at k4;rw [B5n.out h22] at k5
 exact ⟨k3,k4,k5⟩
theorem sF {n P o m u x:Nat} {f:List Nat} {pre las:List Int} {us hsE:List Value} {sE:Option Addr} {cE:Nat} {sP:Option Addr} {cP:Nat} {sL:Option Addr} {cL:Nat} {sU:Option Addr} {cU:Nat} {gv:Value} {w4:World} {FF:Nat→Prop} {a0:Act} {l:Array Bool} {a:Act} {w:World} (h:start16I n P o m u x f pre las us hsE sE cE sP cP sL cL sU cU gv w4 FF a0 l a w):∀ j∈[0,1,3,7,8,9,12,13,14],l.getD j true=true:=by
 obtain ⟨x68,x70,x71,x72,x76,x77,x81,x82,x83,x84,x85,vE,nE,xE,vP,nP,xP,vL,nL,xL,vF,nF,xF,ls,c3,c4,c5,ha,HR,H2n,H2,H4,H5,H6n,H6,H10,H11n,H11,H15,H16n,H16,H17,H19,H21,B3n,B3,B4n,B4,B5n,B5,HB,HM⟩:=h
 exact HR
set_option maxRecDepth 100000 in
set_option maxHeartbeats 8000000 in
theorem start16_steps {fa:Option Addr} {fc:Nat} {n P o m u x:Nat} {f:List Nat} {pre las:List Int} {us hsE:List Value} {sE:Option Addr} {cE:Nat} {sP:Option Addr} {cP:Nat} {sL:Option Addr} {cL:Nat} {sU:Option Addr} {cU:Nat} {gv:Value} {w4:World} {FF:Nat→Prop} {v0 v1 v2 v3 v4 v5 v7 v8 v9 v10 v11 v12 v13 v14 v15 v16 v17 v18 v19 v20 v21 v22 v23 v24 v25 v26 v27 v28 v29 v30 v31 v32 v33 v34 v35 v36 v37 v38 v39 v40 v41 v42 v43 v44 v45 v46 v47 v48 v49 v50 v51 v52 v53 v54 v55 v56 v57 v58 v59 v60 v61 v62 v63 v64 v65 v68 v70 v71 v72 v76 v77 v81 v82 v83 v84 v85 v86 v87:Value} {dd:_} {a0:Act} (ha0:a0=⟨#[v0,v1,v2,v3,v4,v5,.pointer (some ⟨o,0,none⟩),v7,v8,v9,v10,v11,v12,v13,v14,v15,v16,v17,v18,v19,v20,v21,v22,v23,v24,v25,v26,v27,v28,v29,v30,v31,v32,v33,v34,v35,v36,v37,v38,v39,v40,v41,v42,v43,v44,v45,v46,v47,v48,v49,v50,v51,v52,v53,v54,v55,v56,v57,v58,v59,v60,v61,v62,v63,v64,v65,.pointer (some ⟨o,3,none⟩),.slice sE m cE,v68,.slice fa n fc,v70,v71,v72,.pointer (some ⟨o,4,none⟩),.slice sP m cP,.int .i64 0,v76,v77,.pointer (some ⟨o,5,none⟩),.slice sL m cL,.int .i64 x,v81,v82,v83,v84,v85,v86,v87],dd⟩) (hn32:n≤32) (hm7:m≤7) (hbase:P≤w4.heap.size) (hFo:FF o) (hoW:o < w4.heap.size) (hsrc0:∀ W:World,GrownBut w4 W FF→tD W 1 (.slice fa n fc) n (nats f)) (ops7:Array Oper) (Q7:Exit→Act→World→Prop):oX (gG Tryd.prog .any ops7 Q7 (start16I n P o m u x f pre las us hsE sE cE sP cP sL cL sU cU gv w4 FF a0)) 0 (qV Tryd.f104 16).toList:=by
 refine ⟨?s0,?s1,?s2,?s3,?s4,?s5,?s6,?s7,?s8,?s9,?s10,?s11,?s12,?s13,?s14,?s15,?s16,?s17,?s18,?s19,?s20,?s21,?s22,trivial⟩
 case s0 =>
  exact fun l a w h hun=>absurd (sF h 0 (by simp)) (by rw [hun];simp)
 case s1 =>
  exact fun l a w h hun=>absurd (sF h 1 (by simp)) (by rw [hun];simp)
 case s2 =>
  intro l a w h hun hdep K hK
  obtain ⟨x68,x70,x71,x72,x76,x77,x81,x82,x83,x84,x85,vE,nE,xE,vP,nP,xP,vL,nL,xL,vF,nF,xF,ls,c3,c4,c5,ha,HR,H2n,H2,H4,H5,H6n,H6,H10,H11n,H11,H15,H16n,H16,H17,H19,H21,B3n,B3,B4n,B4,B5n,B5,HB,HM⟩:=h
  obtain ⟨rfl,rfl,rfl⟩:=H2n.out hun
  subst ha
  rw [ha0]
  simp only [zL,List.foldl_cons,List.foldl_nil,Act.put,sPa,sPb,sPc]
  go_simp
  have hM6:=HM.lit0 (j:=4) rfl hbase
  refine hK.out _ _ ?_
  refine ⟨(.slice (some ⟨w.heap.size,0,none⟩) 0 0),x70,x71,x72,x76,x77,x81,x82,x83,x84,x85,vE,nE,xE,vP,nP,xP,vL,nL,xL,(.slice (some ⟨w.heap.size,0,none⟩) 0 0),0,[],ls,c3,c4,c5,?fa2,fun j hj=>zB (HR j hj),Kh (fun h=>yB h),Kh (fun _ _=>⟨w.heap.size,rfl,rfl,rfl,rfl⟩),Kh (fun h=>absurd (H4.out (zA (by decide) h)).1 (by rw [hun];simp)),Kh (fun h=>absurd (H4.out (H5.out (zA (by decide) h)).1).1 (by rw [hun];simp)),Kh (fun h=>H6n.out (zC h)),Kh (fun h=>absurd (H4.out (H6.out (zA (by decide) h)).1).1 (by rw [hun];simp)),Kh (fun h=>H10.out (zA (by decide) h)),Kh (fun h=>H11n.out (zC h)),Kh (fun h=>⟨zB (H11.out (zA (by decide) h)).1,(H11.out (zA (by decide) h)).2⟩),Kh (fun h=>H15.out (zA (by decide) h)),Kh (fun h=>H16n.out (zC h)),Kh (fun h=>⟨zB (H16.out (zA (by decide) h)).1,(H16.out (zA (by decide) h)).2⟩),Kh (fun h=>H17.out (zA (by decide) h)),Kh (fun h=>H19.out (zA (by decide) h)),Kh (fun h=>H21.out (zA (by decide) h)),Kh (fun h=>B3n.out (zC h)),Kh (fun h=>⟨zB (B3.out (zA (by decide) h)).1,zB (B3.out (zA (by decide) h)).2.1,(B3.out (zA (by decide) h)).2.2⟩),Kh (fun h=>B4n.out (zC h)),Kh (fun h=>⟨zB (B4.out (zA (by decide) h)).1,zB (B4.out (zA (by decide) h)).2.1,(B4.out (zA (by decide) h)).2.2⟩),Kh (fun h=>B5n.out (zC h)),Kh (fun h=>⟨zB (B5.out (zA (by decide) h)).1,zB (B5.out (zA (by decide) h)).2.1,(B5.out (zA (by decide) h)).2.2⟩),zE HB (Ga w (.cells #[] 3) none) (by simp),hM6⟩
  case fa2=>rw [ha0];simp only [zL,List.foldl_cons,List.foldl_nil,Act.put,sPa,sPb,sPc]
 case s3 =>
  exact fun l a w h hun=>absurd (sF h 3 (by simp)) (by rw [hun];simp)
 case s4 =>
  intro l a w h hun hdep K hK
  obtain ⟨x68,x70,x71,x72,x76,x77,x81,x82,x83,x84,x85,vE,nE,xE,vP,nP,xP,vL,nL,xL,vF,nF,xF,ls,c3,c4,c5,ha,HR,H2n,H2,H4,H5,H6n,H6,H10,H11n,H11,H15,H16n,H16,H17,H19,H21,B3n,B3,B4n,B4,B5n,B5,HB,HM⟩:=h
  have DH2:=H2.out (zK (hdep ⟨2,.data⟩ (by simp) rfl))
  obtain ⟨g2,rfl,rfl,rfl,rfl⟩:=DH2 hun
  have hd2:=zK (hdep ⟨2,.data⟩ (by simp) rfl)
  subst ha
  rw [ha0]
  simp only [zL,List.foldl_cons,List.foldl_nil,Act.put,sPa,sPb,sPc]
  have hsrc:tD w 1 (.slice fa n fc) n (nats f):=hsrc0 w HM.but
  refine sY (by simp [Region.wanted]) (.tmp 68) (.tmp 69) 22 rfl yC.toN 4 _ rfl HM rfl rfl rfl rfl hsrc ?g14 (Nat.zero_add n) ?g24 ?g34 hbase ?_
  case g14=>intro u hu;obtain ⟨y,_,rfl⟩:=List.mem_map.1 hu;rfl
  case g24=>unfold maxLen;omega
  case g34=>omega
  intro sa sc w6 hM6 hg6
  rw [List.nil_append] at hM6
  refine hK.out _ _ ?_
  refine ⟨(.slice (some ⟨g2,0,none⟩) 0 0),(.slice sa n sc),x71,x72,x76,x77,x81,x82,x83,x84,x85,vE,nE,xE,vP,nP,xP,vL,nL,xL,(.slice sa n sc),n,(nats f),ls,c3,c4,c5,?fa4,fun j hj=>zB (HR j hj),Kh (fun h=>absurd (zB hd2) (by rw [h];simp)),Kh (fun _ h4=>yB h4),Kh (fun _=>⟨zB hd2,sa,sc,rfl,rfl,rfl,rfl⟩),Kh (fun h=>absurd (H5.out (zA (by decide) h)).1 (by rw [hun];simp)),Kh (fun h=>H6n.out (zC h)),Kh (fun h=>absurd (H6.out (zA (by decide) h)).1 (by rw [hun];simp)),Kh (fun h=>H10.out (zA (by decide) h)),Kh (fun h=>H11n.out (zC h)),Kh (fun h=>⟨zB (H11.out (zA (by decide) h)).1,(H11.out (zA (by decide) h)).2⟩),Kh (fun h=>H15.out (zA (by decide) h)),Kh (fun h=>H16n.out (zC h)),Kh (fun h=>⟨zB (H16.out (zA (by decide) h)).1,(H16.out (zA (by decide) h)).2⟩),Kh (fun h=>H17.out (zA (by decide) h)),Kh (fun h=>H19.out (zA (by decide) h)),Kh (fun h=>H21.out (zA (by decide) h)),Kh (fun h=>B3n.out (zC h)),Kh (fun h=>⟨zB (B3.out (zA (by decide) h)).1,zB (B3.out (zA (by decide) h)).2.1,(B3.out (zA (by decide) h)).2.2⟩),Kh (fun h=>B4n.out (zC h)),Kh (fun h=>⟨zB (B4.out (zA (by decide) h)).1,zB (B4.out (zA (by decide) h)).2.1,(B4.out (zA (by decide) h)).2.2⟩),Kh (fun h=>B5n.out (zC h)),Kh (fun h=>⟨zB (B5.out (zA (by decide) h)).1,zB (B5.out (zA (by decide) h)).2.1,(B5.out (zA (by decide) h)).2.2⟩),zE HB hg6 (fun e=>HM.not_type HB (by simp) 4 _ rfl e),hM6⟩
  case fa4=>rw [ha0];simp only [zL,List.foldl_cons,List.foldl_nil,Act.put,sPa,sPb,sPc]
 case s5 =>
  intro l a w h hun hdep K hK
  obtain ⟨x68,x70,x71,x72,x76,x77,x81,x82,x83,x84,x85,vE,nE,xE,vP,nP,xP,vL,nL,xL,vF,nF,xF,ls,c3,c4,c5,ha,HR,H2n,H2,H4,H5,H6n,H6,H10,H11n,H11,H15,H16n,H16,H17,H19,H21,B3n,B3,B4n,B4,B5n,B5,HB,HM⟩:=h
  have DH4:=H4.out (zK (hdep ⟨4,.data⟩ (by simp) rfl))
  obtain ⟨hd2,sa,sc,rfl,rfl,rfl,rfl⟩:=DH4
  have hd4:=zK (hdep ⟨4,.data⟩ (by simp) rfl)
  subst ha
  rw [ha0]
  simp only [zL,List.foldl_cons,List.foldl_nil,Act.put,sPa,sPb,sPc]
  go_simp
  refine hK.out _ _ ?_
  refine ⟨x68,(Value.slice sa n sc),(.slice (some ⟨w.heap.size,0,none⟩) 1 1),x72,x76,x77,x81,x82,x83,x84,x85,vE,nE,xE,vP,nP,xP,vL,nL,xL,(Value.slice sa n sc),n,(nats f),((w.heap.size,Obj.cells #[Value.slice sa n sc] 22 (0,0)) :: ls),c3,c4,c5,?fa5,fun j hj=>zB (HR j hj),Kh (fun h=>absurd (zB hd2) (by rw [h];simp)),Kh (fun h h4=>absurd (zB hd4) (by rw [h4];simp)),Kh (fun _=>⟨zB hd2,sa,sc,rfl,rfl,rfl,rfl⟩),Kh (fun _=>⟨zB hd4,w.heap.size,rfl,List.Mem.head _⟩),Kh (fun h=>H6n.out (zC h)),Kh (fun h=>⟨zB (H6.out (zA (by decide) h)).1,(H6.out (zA (by decide) h)).2⟩),Kh (fun h=>let ⟨g,h1,h2⟩:=H10.out (zA (by decide) h);⟨g,h1,List.Mem.tail _ h2⟩),Kh (fun h=>H11n.out (zC h)),Kh (fun h=>⟨zB (H11.out (zA (by decide) h)).1,(H11.out (zA (by decide) h)).2⟩),Kh (fun h=>let ⟨g,h1,h2⟩:=H15.out (zA (by decide) h);⟨g,h1,List.Mem.tail _ h2⟩),Kh (fun h=>H16n.out (zC h)),Kh (fun h=>⟨zB (H16.out (zA (by decide) h)).1,(H16.out (zA (by decide) h)).2⟩),Kh (fun h=>H17.out (zA (by decide) h)),Kh (fun h=>H19.out (zA (by decide) h)),Kh (fun h=>H21.out (zA (by decide) h)),Kh (fun h=>B3n.out (zC h)),Kh (fun h=>⟨zB (B3.out (zA (by decide) h)).1,zB (B3.out (zA (by decide) h)).2.1,(B3.out (zA (by decide) h)).2.2⟩),Kh (fun h=>B4n.out (zC h)),Kh (fun h=>⟨zB (B4.out (zA (by decide) h)).1,zB (B4.out (zA (by decide) h)).2.1,(B4.out (zA (by decide) h)).2.2⟩),Kh (fun h=>B5n.out (zC h)),Kh (fun h=>⟨zB (B5.out (zA (by decide) h)).1,zB (B5.out (zA (by decide) h)).2.1,(B5.out (zA (by decide) h)).2.2⟩),zE HB (Ga w (.cells #[Value.slice sa n sc] 22) none) (by simp),HM.alloc (.cells #[Value.slice sa n sc] 22)⟩
  case fa5=>rw [ha0];simp only [zL,List.foldl_cons,List.foldl_nil,Act.put,sPa,sPb,sPc]
 case s6 =>
  intro l a w h hun hdep K hK
  obtain ⟨x68,x70,x71,x72,x76,x77,x81,x82,x83,x84,x85,vE,nE,xE,vP,nP,xP,vL,nL,xL,vF,nF,xF,ls,c3,c4,c5,ha,HR,H2n,H2,H4,H5,H6n,H6,H10,H11n,H11,H15,H16n,H16,H17,H19,H21,B3n,B3,B4n,B4,B5n,B5,HB,HM⟩:=h
  have DH5:=H5.out (zK (hdep ⟨5,.data⟩ (by simp) rfl))
  obtain ⟨hd4,g5,rfl,hg5⟩:=DH5
  obtain ⟨hd2,s4,c4',e70,rfl,hn4,hx4⟩:=H4.out hd4
  obtain ⟨rfl,rfl,rfl⟩:=H6n.out hun
  subst ha
  rw [ha0]
  simp only [zL,List.foldl_cons,List.foldl_nil,Act.put,sPa,sPb,sPc]
  refine uV (by simp [Region.wanted]) (.tmp 67) (.tmp 71) 26 rfl vO 0 g5 1 rfl HM rfl rfl rfl rfl ?g16 ?g26 ?g36 hg5 rfl ?_
  case g16=>show m+1≤maxLen;unfold maxLen;omega
  case g26=>show (m+1) * 24≤140737488355328;omega
  case g36=>exact hbase
  intro sa sc w6 hM6 hg6
  refine hK.out _ _ ?_
  refine ⟨x68,x70,(.slice (some ⟨g5,0,none⟩) 1 1),(.slice sa (m+1) sc),x76,x77,x81,x82,x83,x84,x85,(.slice sa (m+1) sc),(m+1),(hsE ++ [Value.slice s4 n c4']),vP,nP,xP,vL,nL,xL,(Value.slice s4 n c4'),nF,xF,ls,c3,c4,c5,?fa6,fun j hj=>zB (HR j hj),Kh (fun h=>absurd (zB hd2) (by rw [h];simp)),Kh (fun h h4=>absurd (zB hd4) (by rw [h4];simp)),Kh (fun _=>⟨zB hd2,s4,c4',e70,rfl,hn4,hx4⟩),Kh (fun _=>⟨zB hd4,g5,rfl,hg5⟩),Kh (fun h=>yB h),Kh (fun _=>⟨zB hd4,sa,sc,rfl,rfl,rfl,rfl⟩),Kh (fun h=>H10.out (zA (by decide) h)),Kh (fun h=>H11n.out (zC h)),Kh (fun h=>absurd (H11.out (zA (by decide) h)).1 (by rw [hun];simp)),Kh (fun h=>H15.out (zA (by decide) h)),Kh (fun h=>H16n.out (zC h)),Kh (fun h=>⟨zB (H16.out (zA (by decide) h)).1,(H16.out (zA (by decide) h)).2⟩),Kh (fun h=>H17.out (zA (by decide) h)),Kh (fun h=>H19.out (zA (by decide) h)),Kh (fun h=>H21.out (zA (by decide) h)),Kh (fun h=>B3n.out (zC h)),Kh (fun h=>absurd (B3.out (zA (by decide) h)).1 (by rw [hun];simp)),Kh (fun h=>B4n.out (zC h)),Kh (fun h=>⟨zB (B4.out (zA (by decide) h)).1,zB (B4.out (zA (by decide) h)).2.1,(B4.out (zA (by decide) h)).2.2⟩),Kh (fun h=>B5n.out (zC h)),Kh (fun h=>⟨zB (B5.out (zA (by decide) h)).1,zB (B5.out (zA (by decide) h)).2.1,(B5.out (zA (by decide) h)).2.2⟩),zE HB hg6 (fun e=>HM.not_type HB (by simp) 0 _ rfl e),hM6⟩
  case fa6=>rw [ha0];simp only [zL,List.foldl_cons,List.foldl_nil,Act.put,sPa,sPb,sPc]
 case s7 =>
  exact fun l a w h hun=>absurd (sF h 7 (by simp)) (by rw [hun];simp)
 case s8 =>
  exact fun l a w h hun=>absurd (sF h 8 (by simp)) (by rw [hun];simp)
 case s9 =>
  exact fun l a w h hun=>absurd (sF h 9 (by simp)) (by rw [hun];simp)
 case s10 =>
  intro l a w h hun hdep K hK
  obtain ⟨x68,x70,x71,x72,x76,x77,x81,x82,x83,x84,x85,vE,nE,xE,vP,nP,xP,vL,nL,xL,vF,nF,xF,ls,c3,c4,c5,ha,HR,H2n,H2,H4,H5,H6n,H6,H10,H11n,H11,H15,H16n,H16,H17,H19,H21,B3n,B3,B4n,B4,B5n,B5,HB,HM⟩:=h
  subst ha
  rw [ha0]
  simp only [zL,List.foldl_cons,List.foldl_nil,Act.put,sPa,sPb,sPc]
  go_simp
  refine hK.out _ _ ?_
  refine ⟨x68,x70,x71,x72,(.slice (some ⟨w.heap.size,0,none⟩) 1 1),x77,x81,x82,x83,x84,x85,vE,nE,xE,vP,nP,xP,vL,nL,xL,vF,nF,xF,((w.heap.size,Obj.cells #[Value.int .i64 0] 3 (0,0)) :: ls),c3,c4,c5,?fa10,fun j hj=>zB (HR j hj),Kh (fun h=>H2n.out (zC h)),Kh (fun h h4=>H2.out (zA (by decide) h) (zC h4)),Kh (fun h=>⟨zB (H4.out (zA (by decide) h)).1,(H4.out (zA (by decide) h)).2⟩),Kh (fun h=>⟨zB (H5.out (zA (by decide) h)).1,let ⟨g,h1,h2⟩:=(H5.out (zA (by decide) h)).2;⟨g,h1,List.Mem.tail _ h2⟩⟩),Kh (fun h=>H6n.out (zC h)),Kh (fun h=>⟨zB (H6.out (zA (by decide) h)).1,(H6.out (zA (by decide) h)).2⟩),Kh (fun _=>⟨w.heap.size,rfl,List.Mem.head _⟩),Kh (fun h=>H11n.out (zC h)),Kh (fun h=>⟨zB (H11.out (zA (by decide) h)).1,(H11.out (zA (by decide) h)).2⟩),Kh (fun h=>let ⟨g,h1,h2⟩:=H15.out (zA (by decide) h);⟨g,h1,List.Mem.tail _ h2⟩),Kh (fun h=>H16n.out (zC h)),Kh (fun h=>⟨zB (H16.out (zA (by decide) h)).1,(H16.out (zA (by decide) h)).2⟩),Kh (fun h=>H17.out (zA (by decide) h)),Kh (fun h=>H19.out (zA (by decide) h)),Kh (fun h=>H21.out (zA (by decide) h)),Kh (fun h=>B3n.out (zC h)),Kh (fun h=>⟨zB (B3.out (zA (by decide) h)).1,zB (B3.out (zA (by decide) h)).2.1,(B3.out (zA (by decide) h)).2.2⟩),Kh (fun h=>B4n.out (zC h)),Kh (fun h=>⟨zB (B4.out (zA (by decide) h)).1,zB (B4.out (zA (by decide) h)).2.1,(B4.out (zA (by decide) h)).2.2⟩),Kh (fun h=>B5n.out (zC h)),Kh (fun h=>⟨zB (B5.out (zA (by decide) h)).1,zB (B5.out (zA (by decide) h)).2.1,(B5.out (zA (by decide) h)).2.2⟩),zE HB (Ga w (.cells #[Value.int .i64 0] 3) none) (by simp),HM.alloc (.cells #[Value.int .i64 0] 3)⟩
  case fa10=>rw [ha0];simp only [zL,List.foldl_cons,List.foldl_nil,Act.put,sPa,sPb,sPc]
 case s11 =>
  intro l a w h hun hdep K hK
  obtain ⟨x68,x70,x71,x72,x76,x77,x81,x82,x83,x84,x85,vE,nE,xE,vP,nP,xP,vL,nL,xL,vF,nF,xF,ls,c3,c4,c5,ha,HR,H2n,H2,H4,H5,H6n,H6,H10,H11n,H11,H15,H16n,H16,H17,H19,H21,B3n,B3,B4n,B4,B5n,B5,HB,HM⟩:=h
  have DH10:=H10.out (zK (hdep ⟨10,.data⟩ (by simp) rfl))
  obtain ⟨g5,rfl,hg5⟩:=DH10
  obtain ⟨rfl,rfl,rfl⟩:=H11n.out hun
  have hdc:=zK (hdep ⟨6,.chain⟩ (by simp) rfl)
  subst ha
  rw [ha0]
  simp only [zL,List.foldl_cons,List.foldl_nil,Act.put,sPa,sPb,sPc]
  refine uV (by simp [Region.wanted]) (.tmp 74) (.tmp 76) 22 rfl yC 1 g5 1 rfl HM rfl rfl rfl rfl ?g111 ?g211 ?g311 hg5 rfl ?_
  case g111=>show m+1≤maxLen;unfold maxLen;omega
  case g211=>show (m+1) * 8≤140737488355328;omega
  case g311=>exact hbase
  intro sa sc w6 hM6 hg6
  refine hK.out _ _ ?_
  refine ⟨x68,x70,x71,x72,(.slice (some ⟨g5,0,none⟩) 1 1),(.slice sa (m+1) sc),x81,x82,x83,x84,x85,vE,nE,xE,(.slice sa (m+1) sc),(m+1),((ints pre) ++ [Value.int .i64 0]),vL,nL,xL,vF,nF,xF,ls,c3,c4,c5,?fa11,fun j hj=>zB (HR j hj),Kh (fun h=>H2n.out (zC h)),Kh (fun h h4=>H2.out (zA (by decide) h) (zC h4)),Kh (fun h=>⟨zB (H4.out (zA (by decide) h)).1,(H4.out (zA (by decide) h)).2⟩),Kh (fun h=>⟨zB (H5.out (zA (by decide) h)).1,(H5.out (zA (by decide) h)).2⟩),Kh (fun h=>H6n.out (zC h)),Kh (fun h=>⟨zB (H6.out (zA (by decide) h)).1,(H6.out (zA (by decide) h)).2⟩),Kh (fun _=>⟨g5,rfl,hg5⟩),Kh (fun h=>yB h),Kh (fun _=>⟨zB hdc,sa,sc,rfl,rfl,rfl,rfl⟩),Kh (fun h=>H15.out (zA (by decide) h)),Kh (fun h=>H16n.out (zC h)),Kh (fun h=>absurd (H16.out (zA (by decide) h)).1 (by rw [hun];simp)),Kh (fun h=>H17.out (zA (by decide) h)),Kh (fun h=>H19.out (zA (by decide) h)),Kh (fun h=>H21.out (zA (by decide) h)),Kh (fun h=>B3n.out (zC h)),Kh (fun h=>⟨zB (B3.out (zA (by decide) h)).1,zB (B3.out (zA (by decide) h)).2.1,(B3.out (zA (by decide) h)).2.2⟩),Kh (fun h=>B4n.out (zC h)),Kh (fun h=>absurd (B4.out (zA (by decide) h)).1 (by rw [hun];simp)),Kh (fun h=>B5n.out (zC h)),Kh (fun h=>⟨zB (B5.out (zA (by decide) h)).1,zB (B5.out (zA (by decide) h)).2.1,(B5.out (zA (by decide) h)).2.2⟩),zE HB hg6 (fun e=>HM.not_type HB (by simp) 1 _ rfl e),hM6⟩
  case fa11=>rw [ha0];simp only [zL,List.foldl_cons,List.foldl_nil,Act.put,sPa,sPb,sPc]
 case s12 =>
  exact fun l a w h hun=>absurd (sF h 12 (by simp)) (by rw [hun];simp)
 case s13 =>
  exact fun l a w h hun=>absurd (sF h 13 (by simp)) (by rw [hun];simp)
 case s14 =>
  exact fun l a w h hun=>absurd (sF h 14 (by simp)) (by rw [hun];simp)
 case s15 =>
  intro l a w h hun hdep K hK
  obtain ⟨x68,x70,x71,x72,x76,x77,x81,x82,x83,x84,x85,vE,nE,xE,vP,nP,xP,vL,nL,xL,vF,nF,xF,ls,c3,c4,c5,ha,HR,H2n,H2,H4,H5,H6n,H6,H10,H11n,H11,H15,H16n,H16,H17,H19,H21,B3n,B3,B4n,B4,B5n,B5,HB,HM⟩:=h
  subst ha
  rw [ha0]
  simp only [zL,List.foldl_cons,List.foldl_nil,Act.put,sPa,sPb,sPc]
  go_simp
  refine hK.out _ _ ?_
  refine ⟨x68,x70,x71,x72,x76,x77,(.slice (some ⟨w.heap.size,0,none⟩) 1 1),x82,x83,x84,x85,vE,nE,xE,vP,nP,xP,vL,nL,xL,vF,nF,xF,((w.heap.size,Obj.cells #[Value.int .i64 (x:Int)] 3 (0,0)) :: ls),c3,c4,c5,?fa15,fun j hj=>zB (HR j hj),Kh (fun h=>H2n.out (zC h)),Kh (fun h h4=>H2.out (zA (by decide) h) (zC h4)),Kh (fun h=>⟨zB (H4.out (zA (by decide) h)).1,(H4.out (zA (by decide) h)).2⟩),Kh (fun h=>⟨zB (H5.out (zA (by decide) h)).1,let ⟨g,h1,h2⟩:=(H5.out (zA (by decide) h)).2;⟨g,h1,List.Mem.tail _ h2⟩⟩),Kh (fun h=>H6n.out (zC h)),Kh (fun h=>⟨zB (H6.out (zA (by decide) h)).1,(H6.out (zA (by decide) h)).2⟩),Kh (fun h=>let ⟨g,h1,h2⟩:=H10.out (zA (by decide) h);⟨g,h1,List.Mem.tail _ h2⟩),Kh (fun h=>H11n.out (zC h)),Kh (fun h=>⟨zB (H11.out (zA (by decide) h)).1,(H11.out (zA (by decide) h)).2⟩),Kh (fun _=>⟨w.heap.size,rfl,List.Mem.head _⟩),Kh (fun h=>H16n.out (zC h)),Kh (fun h=>⟨zB (H16.out (zA (by decide) h)).1,(H16.out (zA (by decide) h)).2⟩),Kh (fun h=>H17.out (zA (by decide) h)),Kh (fun h=>H19.out (zA (by decide) h)),Kh (fun h=>H21.out (zA (by decide) h)),Kh (fun h=>B3n.out (zC h)),Kh (fun h=>⟨zB (B3.out (zA (by decide) h)).1,zB (B3.out (zA (by decide) h)).2.1,(B3.out (zA (by decide) h)).2.2⟩),Kh (fun h=>B4n.out (zC h)),Kh (fun h=>⟨zB (B4.out (zA (by decide) h)).1,zB (B4.out (zA (by decide) h)).2.1,(B4.out (zA (by decide) h)).2.2⟩),Kh (fun h=>B5n.out (zC h)),Kh (fun h=>⟨zB (B5.out (zA (by decide) h)).1,zB (B5.out (zA (by decide) h)).2.1,(B5.out (zA (by decide) h)).2.2⟩),zE HB (Ga w (.cells #[Value.int .i64 (x:Int)] 3) none) (by simp),HM.alloc (.cells #[Value.int .i64 (x:Int)] 3)⟩
  case fa15=>rw [ha0];simp only [zL,List.foldl_cons,List.foldl_nil,Act.put,sPa,sPb,sPc]
 case s16 =>
  intro l a w h hun hdep K hK
  obtain ⟨x68,x70,x71,x72,x76,x77,x81,x82,x83,x84,x85,vE,nE,xE,vP,nP,xP,vL,nL,xL,vF,nF,xF,ls,c3,c4,c5,ha,HR,H2n,H2,H4,H5,H6n,H6,H10,H11n,H11,H15,H16n,H16,H17,H19,H21,B3n,B3,B4n,B4,B5n,B5,HB,HM⟩:=h
  have DH15:=H15.out (zK (hdep ⟨15,.data⟩ (by simp) rfl))
  obtain ⟨g5,rfl,hg5⟩:=DH15
  obtain ⟨rfl,rfl,rfl⟩:=H16n.out hun
  have hdc:=zK (hdep ⟨11,.chain⟩ (by simp) rfl)
  subst ha
  rw [ha0]
  simp only [zL,List.foldl_cons,List.foldl_nil,Act.put,sPa,sPb,sPc]
  refine uV (by simp [Region.wanted]) (.tmp 79) (.tmp 81) 22 rfl yC 2 g5 1 rfl HM rfl rfl rfl rfl ?g116 ?g216 ?g316 hg5 rfl ?_
  case g116=>show m+1≤maxLen;unfold maxLen;omega
  case g216=>show (m+1) * 8≤140737488355328;omega
  case g316=>exact hbase
  intro sa sc w6 hM6 hg6
  refine hK.out _ _ ?_
  refine ⟨x68,x70,x71,x72,x76,x77,(.slice (some ⟨g5,0,none⟩) 1 1),(.slice sa (m+1) sc),x83,x84,x85,vE,nE,xE,vP,nP,xP,(.slice sa (m+1) sc),(m+1),((ints las) ++ [Value.int .i64 (x:Int)]),vF,nF,xF,ls,c3,c4,c5,?fa16,fun j hj=>zB (HR j hj),Kh (fun h=>H2n.out (zC h)),Kh (fun h h4=>H2.out (zA (by decide) h) (zC h4)),Kh (fun h=>⟨zB (H4.out (zA (by decide) h)).1,(H4.out (zA (by decide) h)).2⟩),Kh (fun h=>⟨zB (H5.out (zA (by decide) h)).1,(H5.out (zA (by decide) h)).2⟩),Kh (fun h=>H6n.out (zC h)),Kh (fun h=>⟨zB (H6.out (zA (by decide) h)).1,(H6.out (zA (by decide) h)).2⟩),Kh (fun h=>H10.out (zA (by decide) h)),Kh (fun h=>H11n.out (zC h)),Kh (fun h=>⟨zB (H11.out (zA (by decide) h)).1,(H11.out (zA (by decide) h)).2⟩),Kh (fun _=>⟨g5,rfl,hg5⟩),Kh (fun h=>yB h),Kh (fun _=>⟨zB hdc,sa,sc,rfl,rfl,rfl,rfl⟩),Kh (fun h=>H17.out (zA (by decide) h)),Kh (fun h=>H19.out (zA (by decide) h)),Kh (fun h=>H21.out (zA (by decide) h)),Kh (fun h=>B3n.out (zC h)),Kh (fun h=>absurd (B3.out (zA (by decide) h)).2.1 (by rw [hun];simp)),Kh (fun h=>B4n.out (zC h)),Kh (fun h=>⟨zB (B4.out (zA (by decide) h)).1,zB (B4.out (zA (by decide) h)).2.1,(B4.out (zA (by decide) h)).2.2⟩),Kh (fun h=>B5n.out (zC h)),Kh (fun h=>absurd (B5.out (zA (by decide) h)).1 (by rw [hun];simp)),zE HB hg6 (fun e=>HM.not_type HB (by simp) 2 _ rfl e),hM6⟩
  case fa16=>rw [ha0];simp only [zL,List.foldl_cons,List.foldl_nil,Act.put,sPa,sPb,sPc]
 case s17 =>
  intro l a w h hun hdep K hK
  obtain ⟨x68,x70,x71,x72,x76,x77,x81,x82,x83,x84,x85,vE,nE,xE,vP,nP,xP,vL,nL,xL,vF,nF,xF,ls,c3,c4,c5,ha,HR,H2n,H2,H4,H5,H6n,H6,H10,H11n,H11,H15,H16n,H16,H17,H19,H21,B3n,B3,B4n,B4,B5n,B5,HB,HM⟩:=h
  subst ha
  rw [ha0]
  simp only [zL,List.foldl_cons,List.foldl_nil,Act.put,sPa,sPb,sPc]
  go_simp
  refine hK.out _ _ ?_
  refine ⟨x68,x70,x71,x72,x76,x77,x81,x82,(.pointer (some ⟨o,3,none⟩)),x84,x85,vE,nE,xE,vP,nP,xP,vL,nL,xL,vF,nF,xF,ls,c3,c4,c5,?fa17,fun j hj=>zB (HR j hj),Kh (fun h=>H2n.out (zC h)),Kh (fun h h4=>H2.out (zA (by decide) h) (zC h4)),Kh (fun h=>⟨zB (H4.out (zA (by decide) h)).1,(H4.out (zA (by decide) h)).2⟩),Kh (fun h=>⟨zB (H5.out (zA (by decide) h)).1,(H5.out (zA (by decide) h)).2⟩),Kh (fun h=>H6n.out (zC h)),Kh (fun h=>⟨zB (H6.out (zA (by decide) h)).1,(H6.out (zA (by decide) h)).2⟩),Kh (fun h=>H10.out (zA (by decide) h)),Kh (fun h=>H11n.out (zC h)),Kh (fun h=>⟨zB (H11.out (zA (by decide) h)).1,(H11.out (zA (by decide) h)).2⟩),Kh (fun h=>H15.out (zA (by decide) h)),Kh (fun h=>H16n.out (zC h)),Kh (fun h=>⟨zB (H16.out (zA (by decide) h)).1,(H16.out (zA (by decide) h)).2⟩),Kh (fun _=>rfl),Kh (fun h=>H19.out (zA (by decide) h)),Kh (fun h=>H21.out (zA (by decide) h)),Kh (fun h=>B3n.out (zC h)),Kh (fun h=>⟨zB (B3.out (zA (by decide) h)).1,zB (B3.out (zA (by decide) h)).2.1,(B3.out (zA (by decide) h)).2.2⟩),Kh (fun h=>B4n.out (zC h)),Kh (fun h=>⟨zB (B4.out (zA (by decide) h)).1,zB (B4.out (zA (by decide) h)).2.1,(B4.out (zA (by decide) h)).2.2⟩),Kh (fun h=>B5n.out (zC h)),Kh (fun h=>⟨zB (B5.out (zA (by decide) h)).1,zB (B5.out (zA (by decide) h)).2.1,(B5.out (zA (by decide) h)).2.2⟩),HB,HM⟩
  case fa17=>rw [ha0];simp only [zL,List.foldl_cons,List.foldl_nil,Act.put,sPa,sPb,sPc]
 case s18 =>
  intro l a w h hun hdep K hK
  obtain ⟨x68,x70,x71,x72,x76,x77,x81,x82,x83,x84,x85,vE,nE,xE,vP,nP,xP,vL,nL,xL,vF,nF,xF,ls,c3,c4,c5,ha,HR,H2n,H2,H4,H5,H6n,H6,H10,H11n,H11,H15,H16n,H16,H17,H19,H21,B3n,B3,B4n,B4,B5n,B5,HB,HM⟩:=h
  have DH17:=H17.out (zK (hdep ⟨17,.data⟩ (by simp) rfl))
  have DH6:=H6.out (zK (hdep ⟨6,.data⟩ (by simp) rfl))
  subst DH17
  obtain ⟨hdr,sa,sc,rfl,rfl,rfl,rfl⟩:=DH6
  have hd6:=zK (hdep ⟨6,.data⟩ (by simp) rfl)
  subst ha
  rw [ha0]
  simp only [zL,List.foldl_cons,List.foldl_nil,Act.put,sPa,sPb,sPc]
  obtain ⟨k0,k1,k2,k3,k4,k5,k6,k7,k8⟩:=zX HB
  have kf:=zD HB 3
  go_simp
  have hg6:=zH w ⟨o,3,none⟩ (.slice sa (m+1) sc)
  have hs6:=heap_setCell_same w o 3 _ _ (.slice sa (m+1) sc) HB
  refine hK.out _ _ ?_
  refine ⟨x68,x70,x71,(.slice sa (m+1) sc),x76,x77,x81,x82,(.pointer (some ⟨o,3,none⟩)),x84,x85,(.slice sa (m+1) sc),(m+1),(hsE ++ [vF]),vP,nP,xP,vL,nL,xL,vF,nF,xF,ls,(.slice sa (m+1) sc),c4,c5,?fa18,fun j hj=>zB (HR j hj),Kh (fun h=>H2n.out (zC h)),Kh (fun h h4=>H2.out (zA (by decide) h) (zC h4)),Kh (fun h=>⟨zB (H4.out (zA (by decide) h)).1,(H4.out (zA (by decide) h)).2⟩),Kh (fun h=>⟨zB (H5.out (zA (by decide) h)).1,(H5.out (zA (by decide) h)).2⟩),Kh (fun h=>absurd (zB hd6) (by rw [h];simp)),Kh (fun _=>⟨zB hdr,sa,sc,rfl,rfl,rfl,rfl⟩),Kh (fun h=>H10.out (zA (by decide) h)),Kh (fun h=>H11n.out (zC h)),Kh (fun h=>⟨zB (H11.out (zA (by decide) h)).1,(H11.out (zA (by decide) h)).2⟩),Kh (fun h=>H15.out (zA (by decide) h)),Kh (fun h=>H16n.out (zC h)),Kh (fun h=>⟨zB (H16.out (zA (by decide) h)).1,(H16.out (zA (by decide) h)).2⟩),Kh (fun _=>rfl),Kh (fun h=>H19.out (zA (by decide) h)),Kh (fun h=>H21.out (zA (by decide) h)),Kh (fun h=>yB h),Kh (fun _=>⟨zB (zK (hdep ⟨6,.data⟩ (by simp) rfl)),zB (zK (hdep ⟨16,.chain⟩ (by simp) rfl)),rfl⟩),Kh (fun h=>B4n.out (zC h)),Kh (fun h=>absurd (B4.out (zA (by decide) h)).2.1 (by rw [hun];simp)),Kh (fun h=>B5n.out (zC h)),Kh (fun h=>⟨zB (B5.out (zA (by decide) h)).1,zB (B5.out (zA (by decide) h)).2.1,(B5.out (zA (by decide) h)).2.2⟩),(by simpa using hs6),HM.far hg6 hFo hoW (HM.not_type HB (by simp))⟩
  case fa18=>rw [ha0];simp only [zL,List.foldl_cons,List.foldl_nil,Act.put,sPa,sPb,sPc]
 case s19 =>
  intro l a w h hun hdep K hK
  obtain ⟨x68,x70,x71,x72,x76,x77,x81,x82,x83,x84,x85,vE,nE,xE,vP,nP,xP,vL,nL,xL,vF,nF,xF,ls,c3,c4,c5,ha,HR,H2n,H2,H4,H5,H6n,H6,H10,H11n,H11,H15,H16n,H16,H17,H19,H21,B3n,B3,B4n,B4,B5n,B5,HB,HM⟩:=h
  subst ha
  rw [ha0]
  simp only [zL,List.foldl_cons,List.foldl_nil,Act.put,sPa,sPb,sPc]
  go_simp
  refine hK.out _ _ ?_
  refine ⟨x68,x70,x71,x72,x76,x77,x81,x82,x83,(.pointer (some ⟨o,4,none⟩)),x85,vE,nE,xE,vP,nP,xP,vL,nL,xL,vF,nF,xF,ls,c3,c4,c5,?fa19,fun j hj=>zB (HR j hj),Kh (fun h=>H2n.out (zC h)),Kh (fun h h4=>H2.out (zA (by decide) h) (zC h4)),Kh (fun h=>⟨zB (H4.out (zA (by decide) h)).1,(H4.out (zA (by decide) h)).2⟩),Kh (fun h=>⟨zB (H5.out (zA (by decide) h)).1,(H5.out (zA (by decide) h)).2⟩),Kh (fun h=>H6n.out (zC h)),Kh (fun h=>⟨zB (H6.out (zA (by decide) h)).1,(H6.out (zA (by decide) h)).2⟩),Kh (fun h=>H10.out (zA (by decide) h)),Kh (fun h=>H11n.out (zC h)),Kh (fun h=>⟨zB (H11.out (zA (by decide) h)).1,(H11.out (zA (by decide) h)).2⟩),Kh (fun h=>H15.out (zA (by decide) h)),Kh (fun h=>H16n.out (zC h)),Kh (fun h=>⟨zB (H16.out (zA (by decide) h)).1,(H16.out (zA (by decide) h)).2⟩),Kh (fun h=>H17.out (zA (by decide) h)),Kh (fun _=>rfl),Kh (fun h=>H21.out (zA (by decide) h)),Kh (fun h=>B3n.out (zC h)),Kh (fun h=>⟨zB (B3.out (zA (by decide) h)).1,zB (B3.out (zA (by decide) h)).2.1,(B3.out (zA (by decide) h)).2.2⟩),Kh (fun h=>B4n.out (zC h)),Kh (fun h=>⟨zB (B4.out (zA (by decide) h)).1,zB (B4.out (zA (by decide) h)).2.1,(B4.out (zA (by decide) h)).2.2⟩),Kh (fun h=>B5n.out (zC h)),Kh (fun h=>⟨zB (B5.out (zA (by decide) h)).1,zB (B5.out (zA (by decide) h)).2.1,(B5.out (zA (by decide) h)).2.2⟩),HB,HM⟩
  case fa19=>rw [ha0];simp only [zL,List.foldl_cons,List.foldl_nil,Act.put,sPa,sPb,sPc]
 case s20 =>
  intro l a w h hun hdep K hK
  obtain ⟨x68,x70,x71,x72,x76,x77,x81,x82,x83,x84,x85,vE,nE,xE,vP,nP,xP,vL,nL,xL,vF,nF,xF,ls,c3,c4,c5,ha,HR,H2n,H2,H4,H5,H6n,H6,H10,H11n,H11,H15,H16n,H16,H17,H19,H21,B3n,B3,B4n,B4,B5n,B5,HB,HM⟩:=h
  have DH19:=H19.out (zK (hdep ⟨19,.data⟩ (by simp) rfl))
  have DH11:=H11.out (zK (hdep ⟨11,.data⟩ (by simp) rfl))
  subst DH19
  obtain ⟨hdr,sa,sc,rfl,rfl,rfl,rfl⟩:=DH11
  have hd6:=zK (hdep ⟨11,.data⟩ (by simp) rfl)
  subst ha
  rw [ha0]
  simp only [zL,List.foldl_cons,List.foldl_nil,Act.put,sPa,sPb,sPc]
  obtain ⟨k0,k1,k2,k3,k4,k5,k6,k7,k8⟩:=zX HB
  have kf:=zD HB 4
  go_simp
  have hg6:=zH w ⟨o,4,none⟩ (.slice sa (m+1) sc)
  have hs6:=heap_setCell_same w o 4 _ _ (.slice sa (m+1) sc) HB
  refine hK.out _ _ ?_
  refine ⟨x68,x70,x71,x72,x76,(.slice sa (m+1) sc),x81,x82,x83,(.pointer (some ⟨o,4,none⟩)),x85,vE,nE,xE,(.slice sa (m+1) sc),(m+1),(ints pre ++ [Value.int .i64 0]),vL,nL,xL,vF,nF,xF,ls,c3,(.slice sa (m+1) sc),c5,?fa20,fun j hj=>zB (HR j hj),Kh (fun h=>H2n.out (zC h)),Kh (fun h h4=>H2.out (zA (by decide) h) (zC h4)),Kh (fun h=>⟨zB (H4.out (zA (by decide) h)).1,(H4.out (zA (by decide) h)).2⟩),Kh (fun h=>⟨zB (H5.out (zA (by decide) h)).1,(H5.out (zA (by decide) h)).2⟩),Kh (fun h=>H6n.out (zC h)),Kh (fun h=>⟨zB (H6.out (zA (by decide) h)).1,(H6.out (zA (by decide) h)).2⟩),Kh (fun h=>H10.out (zA (by decide) h)),Kh (fun h=>absurd (zB hd6) (by rw [h];simp)),Kh (fun _=>⟨zB hdr,sa,sc,rfl,rfl,rfl,rfl⟩),Kh (fun h=>H15.out (zA (by decide) h)),Kh (fun h=>H16n.out (zC h)),Kh (fun h=>⟨zB (H16.out (zA (by decide) h)).1,(H16.out (zA (by decide) h)).2⟩),Kh (fun h=>H17.out (zA (by decide) h)),Kh (fun _=>rfl),Kh (fun h=>H21.out (zA (by decide) h)),Kh (fun h=>B3n.out (zC h)),Kh (fun h=>⟨zB (B3.out (zA (by decide) h)).1,zB (B3.out (zA (by decide) h)).2.1,(B3.out (zA (by decide) h)).2.2⟩),Kh (fun h=>yB h),Kh (fun _=>⟨zB (zK (hdep ⟨11,.data⟩ (by simp) rfl)),zB (zK (hdep ⟨18,.chain⟩ (by simp) rfl)),rfl⟩),Kh (fun h=>B5n.out (zC h)),Kh (fun h=>absurd (B5.out (zA (by decide) h)).2.1 (by rw [hun];simp)),(by simpa using hs6),HM.far hg6 hFo hoW (HM.not_type HB (by simp))⟩
  case fa20=>rw [ha0];simp only [zL,List.foldl_cons,List.foldl_nil,Act.put,sPa,sPb,sPc]
 case s21 =>
  intro l a w h hun hdep K hK
  obtain ⟨x68,x70,x71,x72,x76,x77,x81,x82,x83,x84,x85,vE,nE,xE,vP,nP,xP,vL,nL,xL,vF,nF,xF,ls,c3,c4,c5,ha,HR,H2n,H2,H4,H5,H6n,H6,H10,H11n,H11,H15,H16n,H16,H17,H19,H21,B3n,B3,B4n,B4,B5n,B5,HB,HM⟩:=h
  subst ha
  rw [ha0]
  simp only [zL,List.foldl_cons,List.foldl_nil,Act.put,sPa,sPb,sPc]
  go_simp
  refine hK.out _ _ ?_
  refine ⟨x68,x70,x71,x72,x76,x77,x81,x82,x83,x84,(.pointer (some ⟨o,5,none⟩)),vE,nE,xE,vP,nP,xP,vL,nL,xL,vF,nF,xF,ls,c3,c4,c5,?fa21,fun j hj=>zB (HR j hj),Kh (fun h=>H2n.out (zC h)),Kh (fun h h4=>H2.out (zA (by decide) h) (zC h4)),Kh (fun h=>⟨zB (H4.out (zA (by decide) h)).1,(H4.out (zA (by decide) h)).2⟩),Kh (fun h=>⟨zB (H5.out (zA (by decide) h)).1,(H5.out (zA (by decide) h)).2⟩),Kh (fun h=>H6n.out (zC h)),Kh (fun h=>⟨zB (H6.out (zA (by decide) h)).1,(H6.out (zA (by decide) h)).2⟩),Kh (fun h=>H10.out (zA (by decide) h)),Kh (fun h=>H11n.out (zC h)),Kh (fun h=>⟨zB (H11.out (zA (by decide) h)).1,(H11.out (zA (by decide) h)).2⟩),Kh (fun h=>H15.out (zA (by decide) h)),Kh (fun h=>H16n.out (zC h)),Kh (fun h=>⟨zB (H16.out (zA (by decide) h)).1,(H16.out (zA (by decide) h)).2⟩),Kh (fun h=>H17.out (zA (by decide) h)),Kh (fun h=>H19.out (zA (by decide) h)),Kh (fun _=>rfl),Kh (fun h=>B3n.out (zC h)),Kh (fun h=>⟨zB (B3.out (zA (by decide) h)).1,zB (B3.out (zA (by decide) h)).2.1,(B3.out (zA (by decide) h)).2.2⟩),Kh (fun h=>B4n.out (zC h)),Kh (fun h=>⟨zB (B4.out (zA (by decide) h)).1,zB (B4.out (zA (by decide) h)).2.1,(B4.out (zA (by decide) h)).2.2⟩),Kh (fun h=>B5n.out (zC h)),Kh (fun h=>⟨zB (B5.out (zA (by decide) h)).1,zB (B5.out (zA (by decide) h)).2.1,(B5.out (zA (by decide) h)).2.2⟩),HB,HM⟩
  case fa21=>rw [ha0];simp only [zL,List.foldl_cons,List.foldl_nil,Act.put,sPa,sPb,sPc]
 case s22 =>
  intro l a w h hun hdep K hK
  obtain ⟨x68,x70,x71,x72,x76,x77,x81,x82,x83,x84,x85,vE,nE,xE,vP,nP,xP,vL,nL,xL,vF,nF,xF,ls,c3,c4,c5,ha,HR,H2n,H2,H4,H5,H6n,H6,H10,H11n,H11,H15,H16n,H16,H17,H19,H21,B3n,B3,B4n,B4,B5n,B5,HB,HM⟩:=h
  have DH21:=H21.out (zK (hdep ⟨21,.data⟩ (by simp) rfl))
  have DH16:=H16.out (zK (hdep ⟨16,.data⟩ (by simp) rfl))
  subst DH21
  obtain ⟨hdr,sa,sc,rfl,rfl,rfl,rfl⟩:=DH16
  have hd6:=zK (hdep ⟨16,.data⟩ (by simp) rfl)
  subst ha
  rw [ha0]
  simp only [zL,List.foldl_cons,List.foldl_nil,Act.put,sPa,sPb,sPc]
  obtain ⟨k0,k1,k2,k3,k4,k5,k6,k7,k8⟩:=zX HB
  have kf:=zD HB 5
  go_simp
  have hg6:=zH w ⟨o,5,none⟩ (.slice sa (m+1) sc)
  have hs6:=heap_setCell_same w o 5 _ _ (.slice sa (m+1) sc) HB
  refine hK.out _ _ ?_
  refine ⟨x68,x70,x71,x72,x76,x77,x81,(.slice sa (m+1) sc),x83,x84,(.pointer (some ⟨o,5,none⟩)),vE,nE,xE,vP,nP,xP,(.slice sa (m+1) sc),(m+1),(ints las ++ [Value.int .i64 (x:Int)]),vF,nF,xF,ls,c3,c4,(.slice sa (m+1) sc),?fa22,fun j hj=>zB (HR j hj),Kh (fun h=>H2n.out (zC h)),Kh (fun h h4=>H2.out (zA (by decide) h) (zC h4)),Kh (fun h=>⟨zB (H4.out (zA (by decide) h)).1,(H4.out (zA (by decide) h)).2⟩),Kh (fun h=>⟨zB (H5.out (zA (by decide) h)).1,(H5.out (zA (by decide) h)).2⟩),Kh (fun h=>H6n.out (zC h)),Kh (fun h=>⟨zB (H6.out (zA (by decide) h)).1,(H6.out (zA (by decide) h)).2⟩),Kh (fun h=>H10.out (zA (by decide) h)),Kh (fun h=>H11n.out (zC h)),Kh (fun h=>⟨zB (H11.out (zA (by decide) h)).1,(H11.out (zA (by decide) h)).2⟩),Kh (fun h=>H15.out (zA (by decide) h)),Kh (fun h=>absurd (zB hd6) (by rw [h];simp)),Kh (fun _=>⟨zB hdr,sa,sc,rfl,rfl,rfl,rfl⟩),Kh (fun h=>H17.out (zA (by decide) h)),Kh (fun h=>H19.out (zA (by decide) h)),Kh (fun _=>rfl),Kh (fun h=>B3n.out (zC h)),Kh (fun h=>⟨zB (B3.out (zA (by decide) h)).1,zB (B3.out (zA (by decide) h)).2.1,(B3.out (zA (by decide) h)).2.2⟩),Kh (fun h=>B4n.out (zC h)),Kh (fun h=>⟨zB (B4.out (zA (by decide) h)).1,zB (B4.out (zA (by decide) h)).2.1,(B4.out (zA (by decide) h)).2.2⟩),Kh (fun h=>yB h),Kh (fun _=>⟨zB (zK (hdep ⟨16,.data⟩ (by simp) rfl)),zB (zK (hdep ⟨20,.chain⟩ (by simp) rfl)),rfl⟩),(by simpa using hs6),HM.far hg6 hFo hoW (HM.not_type HB (by simp))⟩
  case fa22=>rw [ha0];simp only [zL,List.foldl_cons,List.foldl_nil,Act.put,sPa,sPb,sPc]
end Go.Proofs.YtdjhoadoiknaoaaDoor
