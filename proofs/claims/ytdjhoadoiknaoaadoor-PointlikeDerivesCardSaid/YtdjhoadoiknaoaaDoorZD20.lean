/- Part 20 of the proof: OfS0. -/
import Derived.Test.YtdjhoadoiknaoaaDoorZD19
set_option linter.unusedVariables false
set_option linter.unusedSimpArgs false
namespace Go.Proofs.YtdjhoadoiknaoaaDoor
open Go.RowKit
theorem own_made {w:World} {b m:Nat} (h:(madeCells #[.bool false] m).toList=bls (List.replicate m false)) (hb:b≤w.heap.size) (hm:m≤maxLen):(w.alloc (.cells (madeCells #[.bool false] m) 4)).ownsRow b 4 1 (.slice (some ⟨w.heap.size,0,none⟩) m m) m (bls (List.replicate m false)):=by
 refine ⟨by simp [bls],.inr ⟨w.heap.size,m,_,rfl,hb,heap_alloc_new w _,Nat.le_refl _,hm,?_,?_⟩⟩
 ·rw [← Array.length_toList,h];simp [bls]
 ·rw [h];simp [bls]
inductive of4I (k m b8:Nat) (T:List (List Nat)) (vg y0 y1 y2 vE y4 y5 y6 y7 y8:Value) (w5:World) (a0:Act) (l:Array Bool) (a:Act) (w:World):Prop
 | mk (x34:Value) (x38:Value) (x39:Value) (x10:Value) (o:Nat) (ha:a=zL a0 [(34,x34),(38,x38),(39,x39),(10,x10)]) (HR:∀ j∈[0,1,2,4,5,6],l.getD j true=true) (H3:Hid (l.getD 3 true=true→∃ sa sc,x34=.slice sa m sc∧OwnT 0 w (.slice sa m sc) m T)) (H7:Hid (l.getD 7 true=true→∃ g,x38=.slice (some ⟨g,0,none⟩) m m∧w.ownsRow w5.heap.size 4 1 (.slice (some ⟨g,0,none⟩) m m) m (bls (List.replicate m false)))) (H8:Hid (l.getD 8 true=true→l.getD 3 true=true∧l.getD 7 true=true∧x39=.agg #[.int .i64 k,x34,.slice none 0 0,.slice none 0 0,.slice none 0 0,x38])) (H9:Hid (l.getD 9 true=true→x10=.pointer (some ⟨o,0,none⟩)∧w5.heap.size≤o)) (B1:Hid (l.getD 9 true=true→(l.getD 10 true=false→w.heap[o]?=some (.cells #[.int .i64 0,.slice none 0 0,.slice none 0 0,.slice none 0 0,.slice none 0 0,.slice none 0 0] 33 (0,0))))) (B2:Hid (l.getD 10 true=true→l.getD 3 true=true∧l.getD 7 true=true∧l.getD 8 true=true∧l.getD 9 true=true∧w.heap[o]?=some (.cells #[.int .i64 k,x34,.slice none 0 0,.slice none 0 0,.slice none 0 0,x38] 33 (0,0)))) (HG:(w5.grownBy w none))
theorem of4_G {k m b8:Nat} {T:List (List Nat)} {vg y0 y1 y2 vE y4 y5 y6 y7 y8:Value} {w5:World} {a0:Act} {l:Array Bool} {a:Act} {w:World} (hb8:w5.heap[b8]?=some (.cells #[y0,y1,y2,vE,y4,y5,y6,y7,y8] 106 (0,0))) (h:of4I k m b8 T vg y0 y1 y2 vE y4 y5 y6 y7 y8 w5 a0 l a w):vV 10 (fun W=>W.cell? ⟨b8,0,none⟩=some y0∧W.cell? ⟨b8,1,none⟩=some y1∧W.cell? ⟨b8,2,none⟩=some y2∧W.cell? ⟨b8,3,none⟩=some vE∧W.cell? ⟨b8,4,none⟩=some y4∧W.cell? ⟨b8,5,none⟩=some y5∧W.cell? ⟨b8,6,none⟩=some y6∧W.cell? ⟨b8,7,none⟩=some y7∧W.cell? ⟨b8,8,none⟩=some y8) (fun _=>True) l w:=by
 obtain ⟨x34,x38,x39,x10,o,ha,HR,H3,H7,H8,H9,B1,B2,HG⟩:=h
 obtain ⟨q0,q1,q2,q3,q4,q5,q6,q7,q8⟩:=zX (zE hb8 HG (by simp))
 exact ⟨⟨q0,q1,q2,q3,q4,q5,q6,q7,q8⟩,fun _=>trivial⟩
theorem qCG {k m b8:Nat} {T:List (List Nat)} {vg y0 y1 y2 vE y4 y5 y6 y7 y8:Value} {w5:World} {a0:Act} {l:Array Bool} {a:Act} {w:World} (h:of4I k m b8 T vg y0 y1 y2 vE y4 y5 y6 y7 y8 w5 a0 l a w):∀ j∈[0,1,2,4,5,6],l.getD j true=true:=by
 obtain ⟨x34,x38,x39,x10,o,ha,HR,H3,H7,H8,H9,B1,B2,HG⟩:=h
 exact HR
set_option maxRecDepth 100000 in
set_option maxHeartbeats 8000000 in
theorem of4_steps {k m b8:Nat} {T:List (List Nat)} {vg y0 y1 y2 vE y4 y5 y6 y7 y8:Value} {w5:World} {v0 v1 v2 v3 v4 v5 v6 v7 v8 v9 v10 v11 v12 v13 v14 v15 v16 v17 v18 v19 v20 v21 v22 v23 v24 v25 v26 v27 v28 v29 v30 v34 v38 v39 v40 v41 v42 v43 v44 v45 v46 v47 v48 v49 v50 v51 v52 v53 v54 v55 v56 v57 v58 v59 v60 v61 v62 v63 v64 v65 v66 v67 v68 v69 v70 v71 v72 v73 v74 v75 v76 v77 v78 v79 v80 v81 v82 v83 v84 v85 v86 v87 v88 v89 v90 v91 v92 v93 v94 v95 v96 v97 v98 v99 v100:Value} {dd:_} {a0:Act} (ha0:a0=⟨#[v0,v1,v2,v3,v4,v5,v6,v7,v8,v9,v10,v11,v12,v13,v14,v15,v16,v17,v18,v19,v20,v21,v22,v23,v24,v25,v26,v27,v28,v29,v30,vg,.int .i64 k,.agg #[y0,y1,y2,vE,y4,y5,y6,y7,y8],v34,.pointer (some ⟨b8,3,none⟩),vE,.int .i64 m,v38,v39,v40,v41,v42,v43,v44,v45,v46,v47,v48,v49,v50,v51,v52,v53,v54,v55,v56,v57,v58,v59,v60,v61,v62,v63,v64,v65,v66,v67,v68,v69,v70,v71,v72,v73,v74,v75,v76,v77,v78,v79,v80,v81,v82,v83,v84,v85,v86,v87,v88,v89,v90,v91,v92,v93,v94,v95,v96,v97,v98,v99,v100],dd⟩) (HTB:∀ W:World,w5.grownBy W none→Calls Tryd.prog 84 #[.agg #[y0,y1,y2,vE,y4,y5,y6,y7,y8]] W (eZ W T)) (hTl:T.length=m) (hmk:∀ w:World,(Instr.makeSlice 25 (.int .i64 (m:Int)) (.int .i64 (m:Int))).run Tryd.prog w=.ok (.slice (some ⟨w.heap.size,0,none⟩) m m) (w.alloc (.cells (madeCells #[.bool false] m) 4))) (hmkz:Hid ((madeCells #[.bool false] m).toList=bls (List.replicate m false))) (hmx:m≤maxLen) (ops7:Array Oper) (Q7:Exit→Act→World→Prop):oX (gG Tryd.prog .any ops7 Q7 (of4I k m b8 T vg y0 y1 y2 vE y4 y5 y6 y7 y8 w5 a0)) 0 (qV Tryd.f46 4).toList:=by
 refine ⟨?s0,?s1,?s2,?s3,?s4,?s5,?s6,?s7,?s8,?s9,?s10,trivial⟩
 case s0 =>
  exact fun l a w h hun=>absurd (qCG h 0 (by simp)) (by rw [hun];simp)
 case s1 =>
  exact fun l a w h hun=>absurd (qCG h 1 (by simp)) (by rw [hun];simp)
 case s2 =>
  exact fun l a w h hun=>absurd (qCG h 2 (by simp)) (by rw [hun];simp)
 case s3 =>
  intro l a w h hun hdep K hK
  obtain ⟨x34,x38,x39,x10,o,ha,HR,H3,H7,H8,H9,B1,B2,HG⟩:=h
  subst ha
  rw [ha0]
  simp only [zL,List.foldl_cons,List.foldl_nil,Act.put,sPa,sPb,sPc]
  go_simp
  go_at_call 84
  refine (HTB w HG).mono ?_
  rintro e w6 ⟨sa,sc,rfl,hown,hg6⟩
  rw [hTl] at hown ⊢
  refine hK.out _ _ ?_
  refine ⟨(.slice sa m sc),x38,x39,x10,o,?fa3,fun j hj=>zB (HR j hj),Kh (fun _=>⟨sa,sc,rfl,hown.base (Nat.zero_le _)⟩),Kh (fun h=>let ⟨g,e,ho⟩:=H7.out (zA (by decide) h);⟨g,e,xH ho hg6⟩),Kh (fun h=>absurd (H8.out (zA (by decide) h)).1 (by rw [hun];simp)),Kh (fun h=>H9.out (zA (by decide) h)),Kh (fun h h9=>zE (B1.out (zA (by decide) h) (zC h9)) hg6 (by simp)),Kh (fun h=>absurd (B2.out (zA (by decide) h)).1 (by rw [hun];simp)),zG HG hg6 (by simp)⟩
  case fa3=>rw [ha0];simp only [zL,List.foldl_cons,List.foldl_nil,Act.put,sPa,sPb,sPc]
 case s4 =>
  exact fun l a w h hun=>absurd (qCG h 4 (by simp)) (by rw [hun];simp)
 case s5 =>
  exact fun l a w h hun=>absurd (qCG h 5 (by simp)) (by rw [hun];simp)
 case s6 =>
  exact fun l a w h hun=>absurd (qCG h 6 (by simp)) (by rw [hun];simp)
 case s7 =>
  intro l a w h hun hdep K hK
  obtain ⟨x34,x38,x39,x10,o,ha,HR,H3,H7,H8,H9,B1,B2,HG⟩:=h
  subst ha
  rw [ha0]
  simp only [zL,List.foldl_cons,List.foldl_nil,Act.put,sPa,sPb,sPc]
  go_simp
  have hA7:=own_made hmkz.out HG.size hmx
  refine hK.out _ _ ?_
  refine ⟨x34,(.slice (some ⟨w.heap.size,0,none⟩) m m),x39,x10,o,?fa7,fun j hj=>zB (HR j hj),Kh (fun h=>let ⟨sa,sc,e,ho⟩:=H3.out (zA (by decide) h);⟨sa,sc,e,ho.grow (Ga w (.cells (madeCells #[.bool false] m) 4) none)⟩),Kh (fun _=>⟨w.heap.size,rfl,hA7⟩),Kh (fun h=>absurd (H8.out (zA (by decide) h)).2.1 (by rw [hun];simp)),Kh (fun h=>H9.out (zA (by decide) h)),Kh (fun h h9=>zE (B1.out (zA (by decide) h) (zC h9)) (Ga w (.cells (madeCells #[.bool false] m) 4) none) (by simp)),Kh (fun h=>absurd (B2.out (zA (by decide) h)).2.1 (by rw [hun];simp)),zG HG (Ga w (.cells (madeCells #[.bool false] m) 4) none) (by simp)⟩
  case fa7=>rw [ha0];simp only [zL,List.foldl_cons,List.foldl_nil,Act.put,sPa,sPb,sPc]
 case s8 =>
  intro l a w h hun hdep K hK
  obtain ⟨x34,x38,x39,x10,o,ha,HR,H3,H7,H8,H9,B1,B2,HG⟩:=h
  have DH3:=H3.out (zK (hdep ⟨3,.data⟩ (by simp) rfl))
  have DH7:=H7.out (zK (hdep ⟨7,.data⟩ (by simp) rfl))
  obtain ⟨sa,sc,rfl,hown⟩:=DH3
  obtain ⟨g7,rfl,hA7⟩:=DH7
  subst ha
  rw [ha0]
  simp only [zL,List.foldl_cons,List.foldl_nil,Act.put,sPa,sPb,sPc]
  go_simp
  refine hK.out _ _ ?_
  refine ⟨(.slice sa m sc),(.slice (some ⟨g7,0,none⟩) m m),(.agg #[.int .i64 k,.slice sa m sc,.slice none 0 0,.slice none 0 0,.slice none 0 0,.slice (some ⟨g7,0,none⟩) m m]),x10,o,?fa8,fun j hj=>zB (HR j hj),Kh (fun _=>⟨sa,sc,rfl,hown⟩),Kh (fun _=>⟨g7,rfl,hA7⟩),Kh (fun _=>⟨zB (zK (hdep ⟨3,.data⟩ (by simp) rfl)),zB (zK (hdep ⟨7,.data⟩ (by simp) rfl)),rfl⟩),Kh (fun h=>H9.out (zA (by decide) h)),Kh (fun h h9=>B1.out (zA (by decide) h) (zC h9)),Kh (fun h=>absurd (B2.out (zA (by decide) h)).2.2.1 (by rw [hun];simp)),HG⟩
  case fa8=>rw [ha0];simp only [zL,List.foldl_cons,List.foldl_nil,Act.put,sPa,sPb,sPc]
 case s9 =>
  intro l a w h hun hdep K hK
  obtain ⟨x34,x38,x39,x10,o,ha,HR,H3,H7,H8,H9,B1,B2,HG⟩:=h
  subst ha
  rw [ha0]
  simp only [zL,List.foldl_cons,List.foldl_nil,Act.put,sPa,sPb,sPc]
  go_simp
  refine hK.out _ _ ?_
  refine ⟨x34,x38,x39,(.pointer (some ⟨w.heap.size,0,none⟩)),w.heap.size,?fa9,fun j hj=>zB (HR j hj),Kh (fun h=>let ⟨sa,sc,e,ho⟩:=H3.out (zA (by decide) h);⟨sa,sc,e,ho.grow (Ga w (.cells #[.int .i64 0,.slice none 0 0,.slice none 0 0,.slice none 0 0,.slice none 0 0,.slice none 0 0] 33) none)⟩),Kh (fun h=>let ⟨g,e,ho⟩:=H7.out (zA (by decide) h);⟨g,e,xH ho (Ga w (.cells #[.int .i64 0,.slice none 0 0,.slice none 0 0,.slice none 0 0,.slice none 0 0,.slice none 0 0] 33) none)⟩),Kh (fun h=>⟨zB (H8.out (zA (by decide) h)).1,zB (H8.out (zA (by decide) h)).2.1,(H8.out (zA (by decide) h)).2.2⟩),Kh (fun _=>⟨rfl,HG.size⟩),Kh (fun _ _=>heap_alloc_new w _),Kh (fun h=>absurd (B2.out (zA (by decide) h)).2.2.2.1 (by rw [hun];simp)),zG HG (Ga w (.cells #[.int .i64 0,.slice none 0 0,.slice none 0 0,.slice none 0 0,.slice none 0 0,.slice none 0 0] 33) none) (by simp)⟩
  case fa9=>rw [ha0];simp only [zL,List.foldl_cons,List.foldl_nil,Act.put,sPa,sPb,sPc]
 case s10 =>
  intro l a w h hun hdep K hK
  obtain ⟨x34,x38,x39,x10,o,ha,HR,H3,H7,H8,H9,B1,B2,HG⟩:=h
  have DH9:=H9.out (zK (hdep ⟨9,.data⟩ (by simp) rfl))
  have DB1:=B1.out (zK (hdep ⟨9,.data⟩ (by simp) rfl))
  have DH8:=H8.out (zK (hdep ⟨8,.data⟩ (by simp) rfl))
  have DH3:=H3.out (zK (hdep ⟨3,.chain⟩ (by simp) rfl))
  have DH7:=H7.out (zK (hdep ⟨7,.phase⟩ (by simp) rfl))
  obtain ⟨rfl,ho⟩:=DH9
  obtain ⟨hd3,hd7,rfl⟩:=DH8
  obtain ⟨sa,sc,rfl,hown⟩:=H3.out hd3
  have hd8:=zK (hdep ⟨8,.data⟩ (by simp) rfl)
  have hd9:=zK (hdep ⟨9,.data⟩ (by simp) rfl)
  obtain ⟨g7,rfl,hA7⟩:=H7.out hd7
  have hb:=DB1 hun
  subst ha
  rw [ha0]
  simp only [zL,List.foldl_cons,List.foldl_nil,Act.put,sPa,sPb,sPc]
  obtain ⟨k0,k1,k2,k3,k4,k5⟩:=yT hb
  have f0:=zD hb 0;have f1:=zD hb 1;have f2:=zD hb 2;have f3:=zD hb 3;have f4:=zD hb 4;have f5:=zD hb 5
  go_simp
  obtain ⟨hs9,hg9⟩:=tP hb (.int .i64 k) (.slice sa m sc) (.slice none 0 0) (.slice none 0 0) (.slice none 0 0) (.slice (some ⟨g7,0,none⟩) m m)
  refine hK.out _ _ ?_
  refine ⟨(.slice sa m sc),(.slice (some ⟨g7,0,none⟩) m m),(.agg #[.int .i64 k,.slice sa m sc,.slice none 0 0,.slice none 0 0,.slice none 0 0,.slice (some ⟨g7,0,none⟩) m m]),(.pointer (some ⟨o,0,none⟩)),o,?fa10,fun j hj=>zB (HR j hj),Kh (fun _=>⟨sa,sc,rfl,hown.other hg9 hb (by decide) (by decide)⟩),Kh (fun _=>⟨g7,rfl,hA7.kept hg9 (.inr (zS hA7 hb (by decide)))⟩),Kh (fun _=>⟨zB hd3,zB hd7,rfl⟩),Kh (fun _=>⟨rfl,ho⟩),Kh (fun _ h9=>yB h9),Kh (fun _=>⟨zB hd3,zB hd7,zB hd8,zB hd9,hs9⟩),zG HG hg9 (fun q e=>by have e:o=q:=Oj e;omega)⟩
  case fa10=>rw [ha0];simp only [zL,List.foldl_cons,List.foldl_nil,Act.put,sPa,sPb,sPc]
end Go.Proofs.YtdjhoadoiknaoaaDoor
