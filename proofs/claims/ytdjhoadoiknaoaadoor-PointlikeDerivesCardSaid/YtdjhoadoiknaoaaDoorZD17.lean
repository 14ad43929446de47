/- Part 17 of the proof: EProc24, MapStr, EProcS. -/
import Derived.Test.YtdjhoadoiknaoaaDoorZD16
import Derived.StringKeys
set_option linter.unusedVariables false
set_option linter.unusedSimpArgs false
namespace Go.Proofs.YtdjhoadoiknaoaaDoor
open Go.RowKit
theorem qL {P:Nat} {vE vP vL:Value} {nE nP nL:Nat} {xE xP xL:List Value} {rest:List RowS} (h:∀ r∈rest,r.e≠106):∀ s∈(⟨P,22,vE,nE,xE,1⟩ :: ⟨P,3,vP,nP,xP,1⟩ :: ⟨P,3,vL,nL,xL,1⟩ :: rest:List RowS),s.e≠106:=by
 intro s hs
 simp only [List.mem_cons] at hs
 rcases hs with rfl|rfl|rfl|hs
 ·simp
 ·simp
 ·simp
 ·exact h s hs
inductive proc24I (n P o m u d x gf:Nat) (pre las:List Int) (hsE:List Value) (rest:List RowS) (sE:Option Addr) (cE:Nat) (sP:Option Addr) (cP:Nat) (sL:Option Addr) (cL:Nat) (sR:Option Addr) (cR:Nat) (sU:Option Addr) (cU:Nat) (gA:Option Addr) (gN gC:Nat) (w4:World) (FF:Nat→Prop) (a0:Act) (l:Array Bool) (a:Act) (w:World):Prop
 | mk (x123:Value) (x124:Value) (x129:Value) (x130:Value) (x134:Value) (x135:Value) (x136:Value) (x137:Value) (x138:Value) (vE:Value) (nE:Nat) (xE:List Value) (vP:Value) (nP:Nat) (xP:List Value) (vL:Value) (nL:Nat) (xL:List Value) (ls:List (Nat × Obj)) (c3:Value) (c4:Value) (c5:Value) (ha:a=zL a0 [(123,x123),(124,x124),(129,x129),(130,x130),(134,x134),(135,x135),(136,x136),(137,x137),(138,x138)]) (HR:∀ j∈[0,1,2,5,6,7,8,11,12,13],l.getD j true=true) (H3:Hid (l.getD 3 true=true→∃ g,x123=.slice (some ⟨g,0,none⟩) 1 1∧(g,Obj.cells #[Value.slice (some ⟨gf,0,none⟩) n n] 22 (0,0))∈ls)) (H4n:Hid (l.getD 4 true=false→vE=.slice sE m cE∧m=nE∧hsE=xE)) (H4:Hid (l.getD 4 true=true→∃ sa sc,vE=.slice sa (m+1) sc∧x124=.slice sa (m+1) sc∧nE=m+1∧xE=hsE ++ [Value.slice (some ⟨gf,0,none⟩) n n])) (H9:Hid (l.getD 9 true=true→∃ g,x129=.slice (some ⟨g,0,none⟩) 1 1∧(g,Obj.cells #[Value.int .i64 (d:Int)] 3 (0,0))∈ls)) (H10n:Hid (l.getD 10 true=false→vP=.slice sP m cP∧m=nP∧xP=ints pre)) (H10:Hid (l.getD 10 true=true→l.getD 4 true=true∧∃ sa sc,vP=.slice sa (m+1) sc∧x130=.slice sa (m+1) sc∧nP=m+1∧xP=ints pre ++ [Value.int .i64 (d:Int)])) (H14:Hid (l.getD 14 true=true→∃ g,x134=.slice (some ⟨g,0,none⟩) 1 1∧(g,Obj.cells #[Value.int .i64 (x:Int)] 3 (0,0))∈ls)) (H15n:Hid (l.getD 15 true=false→vL=.slice sL m cL∧m=nL∧xL=ints las)) (H15:Hid (l.getD 15 true=true→l.getD 10 true=true∧∃ sa sc,vL=.slice sa (m+1) sc∧x135=.slice sa (m+1) sc∧nL=m+1∧xL=ints las ++ [Value.int .i64 (x:Int)])) (H16:Hid (l.getD 16 true=true→x136=.pointer (some ⟨o,3,none⟩))) (H18:Hid (l.getD 18 true=true→x137=.pointer (some ⟨o,4,none⟩))) (H20:Hid (l.getD 20 true=true→x138=.pointer (some ⟨o,5,none⟩))) (B3n:Hid (l.getD 17 true=false→c3=.slice sE m cE)) (B3:Hid (l.getD 17 true=true→l.getD 4 true=true∧l.getD 15 true=true∧c3=vE)) (B4n:Hid (l.getD 19 true=false→c4=.slice sP m cP)) (B4:Hid (l.getD 19 true=true→l.getD 10 true=true∧l.getD 17 true=true∧c4=vP)) (B5n:Hid (l.getD 21 true=false→c5=.slice sL m cL)) (B5:Hid (l.getD 21 true=true→l.getD 15 true=true∧l.getD 19 true=true∧c5=vL)) (HB:(w.heap[o]?=some (.cells #[.int .i64 n,.bool true,.slice gA gN gC,c3,c4,c5,.slice sR d cR,.slice sU u cU,.int .i64 d] 106 (0,0)))) (HM:(Many w4 FF w (⟨P,22,vE,nE,xE,1⟩ :: ⟨P,3,vP,nP,xP,1⟩ :: ⟨P,3,vL,nL,xL,1⟩ :: rest) ls []))
theorem proc24_G {n P o m u d x gf:Nat} {pre las:List Int} {hsE:List Value} {rest:List RowS} {sE:Option Addr} {cE:Nat} {sP:Option Addr} {cP:Nat} {sL:Option Addr} {cL:Nat} {sR:Option Addr} {cR:Nat} {sU:Option Addr} {cU:Nat} {gA:Option Addr} {gN gC:Nat} {w4:World} {FF:Nat→Prop} {a0:Act} {l:Array Bool} {a:Act} {w:World} (h:proc24I n P o m u d x gf pre las hsE rest sE cE sP cP sL cL sR cR sU cU gA gN gC w4 FF a0 l a w):vV 17 (fun _=>True) (fun W=>W.cell? ⟨o,3,none⟩=some (.slice sE m cE)∧W.cell? ⟨o,4,none⟩=some (.slice sP m cP)∧W.cell? ⟨o,5,none⟩=some (.slice sL m cL)∧W.cell? ⟨o,8,none⟩=some (.int .i64 d)) l w:=by
 obtain ⟨x123,x124,x129,x130,x134,x135,x136,x137,x138,vE,nE,xE,vP,nP,xP,vL,nL,xL,ls,c3,c4,c5,ha,HR,H3,H4n,H4,H9,H10n,H10,H14,H15n,H15,H16,H18,H20,B3n,B3,B4n,B4,B5n,B5,HB,HM⟩:=h
 obtain ⟨k0,k1,k2,k3,k4,k5,k6,k7,k8⟩:=zX HB
 refine ⟨trivial,fun h18=>?_⟩
 have h20:l.getD 19 true=false:=by
  rcases h20:l.getD 19 true with _|_
  ·rfl
  ·have:=(B4.out h20).2.1
   rw [h18] at this;cases this
 have h22:l.getD 21 true=false:=by
  rcases h22:l.getD 21 true with _|_
  ·rfl
  ·have:=(B5.out h22).2.1
   rw [h20] at this;cases this
 rw [B3n.out h18] at k3;rw [B4n.out h20] at k4;rw [B5n.out h22] at k5
 exact ⟨k3,k4,k5,k8⟩
theorem rL {n P o m u d x gf:Nat} {pre las:List Int} {hsE:List Value} {rest:List RowS} {sE:Option Addr} {cE:Nat} {sP:Option Addr} {cP:Nat} {sL:Option Addr} {cL:Nat} {sR:Option Addr} {cR:Nat} {sU:Option Addr} {cU:Nat} {gA:Option Addr} {gN gC:Nat} {w4:World} {FF:Nat→Prop} {a0:Act} {l:Array Bool} {a:Act} {w:World} (h:proc24I n P o m u d x gf pre las hsE rest sE cE sP cP sL cL sR cR sU cU gA gN gC w4 FF a0 l a w):∀ j∈[0,1,2,5,6,7,8,11,12,13],l.getD j true=true:=by
 obtain ⟨x123,x124,x129,x130,x134,x135,x136,x137,x138,vE,nE,xE,vP,nP,xP,vL,nL,xL,ls,c3,c4,c5,ha,HR,H3,H4n,H4,H9,H10n,H10,H14,H15n,H15,H16,H18,H20,B3n,B3,B4n,B4,B5n,B5,HB,HM⟩:=h
 exact HR
set_option maxRecDepth 100000 in
set_option maxHeartbeats 8000000 in
theorem proc24_steps {n P o m u d x gf:Nat} {pre las:List Int} {hsE:List Value} {rest:List RowS} {sE:Option Addr} {cE:Nat} {sP:Option Addr} {cP:Nat} {sL:Option Addr} {cL:Nat} {sR:Option Addr} {cR:Nat} {sU:Option Addr} {cU:Nat} {gA:Option Addr} {gN gC:Nat} {w4:World} {FF:Nat→Prop} {v0 v1 v2 v3 v4 v5 v7 v8 v9 v10 v11 v12 v13 v14 v15 v16 v17 v18 v19 v20 v21 v22 v23 v24 v25 v26 v27 v28 v29 v30 v31 v32 v33 v34 v35 v36 v37 v38 v39 v40 v41 v42 v43 v44 v45 v46 v47 v48 v49 v50 v51 v52 v53 v54 v55 v56 v57 v58 v59 v60 v61 v62 v63 v64 v65 v66 v67 v68 v69 v70 v71 v72 v73 v74 v75 v76 v77 v78 v79 v80 v81 v82 v83 v84 v85 v86 v87 v88 v89 v90 v91 v92 v93 v94 v95 v96 v97 v98 v99 v100 v101 v102 v103 v104 v105 v106 v107 v108 v109 v110 v111 v112 v113 v114 v115 v116 v117 v118 v119 v123 v124 v129 v130 v134 v135 v136 v137 v138 v139 v140 v141 v142 v143 v144 v145 v146 v147 v148 v149 v150 v151 v152 v153 v154 v155 v156 v157 v158 v159 v160 v161 v162 v163 v164 v165 v166 v167 v168 v169 v170 v171 v172 v173 v174 v175 v176 v177 v178 v179 v180 v181 v182 v183 v184 v185 v186 v187 v188 v189 v190:Value} {dd:_} {a0:Act} (ha0:a0=⟨#[v0,v1,v2,v3,v4,v5,.pointer (some ⟨o,0,none⟩),v7,v8,v9,v10,v11,v12,v13,v14,v15,v16,v17,v18,v19,v20,v21,v22,v23,v24,v25,v26,v27,v28,v29,v30,v31,v32,v33,v34,v35,v36,v37,v38,v39,v40,v41,v42,v43,v44,v45,v46,v47,v48,v49,v50,v51,v52,v53,v54,v55,v56,v57,v58,v59,v60,v61,v62,v63,v64,v65,v66,v67,v68,v69,v70,v71,v72,v73,v74,v75,v76,v77,v78,v79,v80,v81,v82,v83,v84,v85,v86,v87,v88,v89,v90,v91,v92,v93,v94,v95,v96,v97,v98,v99,v100,v101,v102,v103,v104,v105,v106,v107,v108,v109,v110,v111,v112,v113,v114,v115,v116,v117,v118,v119,.pointer (some ⟨o,3,none⟩),.slice sE m cE,Value.slice (some ⟨gf,0,none⟩) n n,v123,v124,.pointer (some ⟨o,4,none⟩),.slice sP m cP,.pointer (some ⟨o,8,none⟩),.int .i64 d,v129,v130,.pointer (some ⟨o,5,none⟩),.slice sL m cL,.int .i64 x,v134,v135,v136,v137,v138,v139,v140,v141,v142,v143,v144,v145,v146,v147,v148,v149,v150,v151,v152,v153,v154,v155,v156,v157,v158,v159,v160,v161,v162,v163,v164,v165,v166,v167,v168,v169,v170,v171,v172,v173,v174,v175,v176,v177,v178,v179,v180,v181,v182,v183,v184,v185,v186,v187,v188,v189,v190],dd⟩) (hm7:m≤2000) (hbase:P≤w4.heap.size) (hFo:FF o) (hoW:o < w4.heap.size) (hrest:∀ r∈rest,r.e≠106) (ops7:Array Oper) (Q7:Exit→Act→World→Prop):oX (gG Tryd.prog .any ops7 Q7 (proc24I n P o m u d x gf pre las hsE rest sE cE sP cP sL cL sR cR sU cU gA gN gC w4 FF a0)) 0 (qV Tryd.f105 24).toList:=by
 refine ⟨?s0,?s1,?s2,?s3,?s4,?s5,?s6,?s7,?s8,?s9,?s10,?s11,?s12,?s13,?s14,?s15,?s16,?s17,?s18,?s19,?s20,?s21,trivial⟩
 case s0 =>
  exact fun l a w h hun=>absurd (rL h 0 (by simp)) (by rw [hun];simp)
 case s1 =>
  exact fun l a w h hun=>absurd (rL h 1 (by simp)) (by rw [hun];simp)
 case s2 =>
  exact fun l a w h hun=>absurd (rL h 2 (by simp)) (by rw [hun];simp)
 case s3 =>
  intro l a w h hun hdep K hK
  obtain ⟨x123,x124,x129,x130,x134,x135,x136,x137,x138,vE,nE,xE,vP,nP,xP,vL,nL,xL,ls,c3,c4,c5,ha,HR,H3,H4n,H4,H9,H10n,H10,H14,H15n,H15,H16,H18,H20,B3n,B3,B4n,B4,B5n,B5,HB,HM⟩:=h
  subst ha
  rw [ha0]
  simp only [zL,List.foldl_cons,List.foldl_nil,Act.put,sPa,sPb,sPc]
  go_simp
  refine hK.out _ _ ?_
  refine ⟨(.slice (some ⟨w.heap.size,0,none⟩) 1 1),x124,x129,x130,x134,x135,x136,x137,x138,vE,nE,xE,vP,nP,xP,vL,nL,xL,((w.heap.size,Obj.cells #[Value.slice (some ⟨gf,0,none⟩) n n] 22 (0,0)) :: ls),c3,c4,c5,?fa3,fun j hj=>zB (HR j hj),Kh (fun _=>⟨w.heap.size,rfl,List.Mem.head _⟩),Kh (fun h=>H4n.out (zC h)),Kh (fun h=>H4.out (zA (by decide) h)),Kh (fun h=>let ⟨g,h1,h2⟩:=H9.out (zA (by decide) h);⟨g,h1,List.Mem.tail _ h2⟩),Kh (fun h=>H10n.out (zC h)),Kh (fun h=>⟨zB (H10.out (zA (by decide) h)).1,(H10.out (zA (by decide) h)).2⟩),Kh (fun h=>let ⟨g,h1,h2⟩:=H14.out (zA (by decide) h);⟨g,h1,List.Mem.tail _ h2⟩),Kh (fun h=>H15n.out (zC h)),Kh (fun h=>⟨zB (H15.out (zA (by decide) h)).1,(H15.out (zA (by decide) h)).2⟩),Kh (fun h=>H16.out (zA (by decide) h)),Kh (fun h=>H18.out (zA (by decide) h)),Kh (fun h=>H20.out (zA (by decide) h)),Kh (fun h=>B3n.out (zC h)),Kh (fun h=>⟨zB (B3.out (zA (by decide) h)).1,zB (B3.out (zA (by decide) h)).2.1,(B3.out (zA (by decide) h)).2.2⟩),Kh (fun h=>B4n.out (zC h)),Kh (fun h=>⟨zB (B4.out (zA (by decide) h)).1,zB (B4.out (zA (by decide) h)).2.1,(B4.out (zA (by decide) h)).2.2⟩),Kh (fun h=>B5n.out (zC h)),Kh (fun h=>⟨zB (B5.out (zA (by decide) h)).1,zB (B5.out (zA (by decide) h)).2.1,(B5.out (zA (by decide) h)).2.2⟩),zE HB (Ga w (.cells #[Value.slice (some ⟨gf,0,none⟩) n n] 22) none) (by simp),HM.alloc (.cells #[Value.slice (some ⟨gf,0,none⟩) n n] 22)⟩
  case fa3=>rw [ha0];simp only [zL,List.foldl_cons,List.foldl_nil,Act.put,sPa,sPb,sPc]
 case s4 =>
  intro l a w h hun hdep K hK
  obtain ⟨x123,x124,x129,x130,x134,x135,x136,x137,x138,vE,nE,xE,vP,nP,xP,vL,nL,xL,ls,c3,c4,c5,ha,HR,H3,H4n,H4,H9,H10n,H10,H14,H15n,H15,H16,H18,H20,B3n,B3,B4n,B4,B5n,B5,HB,HM⟩:=h
  have DH3:=H3.out (zK (hdep ⟨3,.data⟩ (by simp) rfl))
  obtain ⟨g5,rfl,hg5⟩:=DH3
  obtain ⟨rfl,rfl,rfl⟩:=H4n.out hun
  subst ha
  rw [ha0]
  simp only [zL,List.foldl_cons,List.foldl_nil,Act.put,sPa,sPb,sPc]
  refine uV (by simp [Region.wanted]) (.tmp 121) (.tmp 123) 26 rfl vO 0 g5 1 rfl HM rfl rfl rfl rfl ?g14 ?g24 ?g34 hg5 rfl ?_
  case g14=>show m+1≤maxLen;unfold maxLen;omega
  case g24=>show (m+1) * 24≤140737488355328;omega
  case g34=>exact hbase
  intro sa sc w6 hM6 hg6
  refine hK.out _ _ ?_
  refine ⟨(.slice (some ⟨g5,0,none⟩) 1 1),(.slice sa (m+1) sc),x129,x130,x134,x135,x136,x137,x138,(.slice sa (m+1) sc),(m+1),(hsE ++ [Value.slice (some ⟨gf,0,none⟩) n n]),vP,nP,xP,vL,nL,xL,ls,c3,c4,c5,?fa4,fun j hj=>zB (HR j hj),Kh (fun _=>⟨g5,rfl,hg5⟩),Kh (fun h=>yB h),Kh (fun _=>⟨sa,sc,rfl,rfl,rfl,rfl⟩),Kh (fun h=>H9.out (zA (by decide) h)),Kh (fun h=>H10n.out (zC h)),Kh (fun h=>absurd (H10.out (zA (by decide) h)).1 (by rw [hun];simp)),Kh (fun h=>H14.out (zA (by decide) h)),Kh (fun h=>H15n.out (zC h)),Kh (fun h=>⟨zB (H15.out (zA (by decide) h)).1,(H15.out (zA (by decide) h)).2⟩),Kh (fun h=>H16.out (zA (by decide) h)),Kh (fun h=>H18.out (zA (by decide) h)),Kh (fun h=>H20.out (zA (by decide) h)),Kh (fun h=>B3n.out (zC h)),Kh (fun h=>absurd (B3.out (zA (by decide) h)).1 (by rw [hun];simp)),Kh (fun h=>B4n.out (zC h)),Kh (fun h=>⟨zB (B4.out (zA (by decide) h)).1,zB (B4.out (zA (by decide) h)).2.1,(B4.out (zA (by decide) h)).2.2⟩),Kh (fun h=>B5n.out (zC h)),Kh (fun h=>⟨zB (B5.out (zA (by decide) h)).1,zB (B5.out (zA (by decide) h)).2.1,(B5.out (zA (by decide) h)).2.2⟩),zE HB hg6 (fun e=>HM.not_type HB (qL hrest) 0 _ rfl e),hM6⟩
  case fa4=>rw [ha0];simp only [zL,List.foldl_cons,List.foldl_nil,Act.put,sPa,sPb,sPc]
 case s5 =>
  exact fun l a w h hun=>absurd (rL h 5 (by simp)) (by rw [hun];simp)
 case s6 =>
  exact fun l a w h hun=>absurd (rL h 6 (by simp)) (by rw [hun];simp)
 case s7 =>
  exact fun l a w h hun=>absurd (rL h 7 (by simp)) (by rw [hun];simp)
 case s8 =>
  exact fun l a w h hun=>absurd (rL h 8 (by simp)) (by rw [hun];simp)
 case s9 =>
  intro l a w h hun hdep K hK
  obtain ⟨x123,x124,x129,x130,x134,x135,x136,x137,x138,vE,nE,xE,vP,nP,xP,vL,nL,xL,ls,c3,c4,c5,ha,HR,H3,H4n,H4,H9,H10n,H10,H14,H15n,H15,H16,H18,H20,B3n,B3,B4n,B4,B5n,B5,HB,HM⟩:=h
  subst ha
  rw [ha0]
  simp only [zL,List.foldl_cons,List.foldl_nil,Act.put,sPa,sPb,sPc]
  go_simp
  refine hK.out _ _ ?_
  refine ⟨x123,x124,(.slice (some ⟨w.heap.size,0,none⟩) 1 1),x130,x134,x135,x136,x137,x138,vE,nE,xE,vP,nP,xP,vL,nL,xL,((w.heap.size,Obj.cells #[Value.int .i64 (d:Int)] 3 (0,0)) :: ls),c3,c4,c5,?fa9,fun j hj=>zB (HR j hj),Kh (fun h=>let ⟨g,h1,h2⟩:=H3.out (zA (by decide) h);⟨g,h1,List.Mem.tail _ h2⟩),Kh (fun h=>H4n.out (zC h)),Kh (fun h=>H4.out (zA (by decide) h)),Kh (fun _=>⟨w.heap.size,rfl,List.Mem.head _⟩),Kh (fun h=>H10n.out (zC h)),Kh (fun h=>⟨zB (H10.out (zA (by decide) h)).1,(H10.out (zA (by decide) h)).2⟩),Kh (fun h=>let ⟨g,h1,h2⟩:=H14.out (zA (by decide) h);⟨g,h1,List.Mem.tail _ h2⟩),Kh (fun h=>H15n.out (zC h)),Kh (fun h=>⟨zB (H15.out (zA (by decide) h)).1,(H15.out (zA (by decide) h)).2⟩),Kh (fun h=>H16.out (zA (by decide) h)),Kh (fun h=>H18.out (zA (by decide) h)),Kh (fun h=>H20.out (zA (by decide) h)),Kh (fun h=>B3n.out (zC h)),Kh (fun h=>⟨zB (B3.out (zA (by decide) h)).1,zB (B3.out (zA (by decide) h)).2.1,(B3.out (zA (by decide) h)).2.2⟩),Kh (fun h=>B4n.out (zC h)),Kh (fun h=>⟨zB (B4.out (zA (by decide) h)).1,zB (B4.out (zA (by decide) h)).2.1,(B4.out (zA (by decide) h)).2.2⟩),Kh (fun h=>B5n.out (zC h)),Kh (fun h=>⟨zB (B5.out (zA (by decide) h)).1,zB (B5.out (zA (by decide) h)).2.1,(B5.out (zA (by decide) h)).2.2⟩),zE HB (Ga w (.cells #[Value.int .i64 (d:Int)] 3) none) (by simp),HM.alloc (.cells #[Value.int .i64 (d:Int)] 3)⟩
  case fa9=>rw [ha0];simp only [zL,List.foldl_cons,List.foldl_nil,Act.put,sPa,sPb,sPc]
 case s10 =>
  intro l a w h hun hdep K hK
  obtain ⟨x123,x124,x129,x130,x134,x135,x136,x137,x138,vE,nE,xE,vP,nP,xP,vL,nL,xL,ls,c3,c4,c5,ha,HR,H3,H4n,H4,H9,H10n,H10,H14,H15n,H15,H16,H18,H20,B3n,B3,B4n,B4,B5n,B5,HB,HM⟩:=h
  have DH9:=H9.out (zK (hdep ⟨9,.data⟩ (by simp) rfl))
  obtain ⟨g5,rfl,hg5⟩:=DH9
  obtain ⟨rfl,rfl,rfl⟩:=H10n.out hun
  have hdc:=zK (hdep ⟨4,.chain⟩ (by simp) rfl)
  subst ha
  rw [ha0]
  simp only [zL,List.foldl_cons,List.foldl_nil,Act.put,sPa,sPb,sPc]
  refine uV (by simp [Region.wanted]) (.tmp 126) (.tmp 129) 22 rfl yC 1 g5 1 rfl HM rfl rfl rfl rfl ?g110 ?g210 ?g310 hg5 rfl ?_
  case g110=>show m+1≤maxLen;unfold maxLen;omega
  case g210=>show (m+1) * 8≤140737488355328;omega
  case g310=>exact hbase
  intro sa sc w6 hM6 hg6
  refine hK.out _ _ ?_
  refine ⟨x123,x124,(.slice (some ⟨g5,0,none⟩) 1 1),(.slice sa (m+1) sc),x134,x135,x136,x137,x138,vE,nE,xE,(.slice sa (m+1) sc),(m+1),((ints pre) ++ [Value.int .i64 (d:Int)]),vL,nL,xL,ls,c3,c4,c5,?fa10,fun j hj=>zB (HR j hj),Kh (fun h=>H3.out (zA (by decide) h)),Kh (fun h=>H4n.out (zC h)),Kh (fun h=>H4.out (zA (by decide) h)),Kh (fun _=>⟨g5,rfl,hg5⟩),Kh (fun h=>yB h),Kh (fun _=>⟨zB hdc,sa,sc,rfl,rfl,rfl,rfl⟩),Kh (fun h=>H14.out (zA (by decide) h)),Kh (fun h=>H15n.out (zC h)),Kh (fun h=>absurd (H15.out (zA (by decide) h)).1 (by rw [hun];simp)),Kh (fun h=>H16.out (zA (by decide) h)),Kh (fun h=>H18.out (zA (by decide) h)),Kh (fun h=>H20.out (zA (by decide) h)),Kh (fun h=>B3n.out (zC h)),Kh (fun h=>⟨zB (B3.out (zA (by decide) h)).1,zB (B3.out (zA (by decide) h)).2.1,(B3.out (zA (by decide) h)).2.2⟩),Kh (fun h=>B4n.out (zC h)),Kh (fun h=>absurd (B4.out (zA (by decide) h)).1 (by rw [hun];simp)),Kh (fun h=>B5n.out (zC h)),Kh (fun h=>⟨zB (B5.out (zA (by decide) h)).1,zB (B5.out (zA (by decide) h)).2.1,(B5.out (zA (by decide) h)).2.2⟩),zE HB hg6 (fun e=>HM.not_type HB (qL hrest) 1 _ rfl e),hM6⟩
  case fa10=>rw [ha0];simp only [zL,List.foldl_cons,List.foldl_nil,Act.put,sPa,sPb,sPc]
 case s11 =>
  exact fun l a w h hun=>absurd (rL h 11 (by simp)) (by rw [hun];simp)
 case s12 =>
  exact fun l a w h hun=>absurd (rL h 12 (by simp)) (by rw [hun];simp)
 case s13 =>
  exact fun l a w h hun=>absurd (rL h 13 (by simp)) (by rw [hun];simp)
 case s14 =>
  intro l a w h hun hdep K hK
  obtain ⟨x123,x124,x129,x130,x134,x135,x136,x137,x138,vE,nE,xE,vP,nP,xP,vL,nL,xL,ls,c3,c4,c5,ha,HR,H3,H4n,H4,H9,H10n,H10,H14,H15n,H15,H16,H18,H20,B3n,B3,B4n,B4,B5n,B5,HB,HM⟩:=h
  subst ha
  rw [ha0]
  simp only [zL,List.foldl_cons,List.foldl_nil,Act.put,sPa,sPb,sPc]
  go_simp
  refine hK.out _ _ ?_
  refine ⟨x123,x124,x129,x130,(.slice (some ⟨w.heap.size,0,none⟩) 1 1),x135,x136,x137,x138,vE,nE,xE,vP,nP,xP,vL,nL,xL,((w.heap.size,Obj.cells #[Value.int .i64 (x:Int)] 3 (0,0)) :: ls),c3,c4,c5,?fa14,fun j hj=>zB (HR j hj),Kh (fun h=>let ⟨g,h1,h2⟩:=H3.out (zA (by decide) h);⟨g,h1,List.Mem.tail _ h2⟩),Kh (fun h=>H4n.out (zC h)),Kh (fun h=>H4.out (zA (by decide) h)),Kh (fun h=>let ⟨g,h1,h2⟩:=H9.out (zA (by decide) h);⟨g,h1,List.Mem.tail _ h2⟩),Kh (fun h=>H10n.out (zC h)),Kh (fun h=>⟨zB (H10.out (zA (by decide) h)).1,(H10.out (zA (by decide) h)).2⟩),Kh (fun _=>⟨w.heap.size,rfl,List.Mem.head _⟩),Kh (fun h=>H15n.out (zC h)),Kh (fun h=>⟨zB (H15.out (zA (by decide) h)).1,(H15.out (zA (by decide) h)).2⟩),Kh (fun h=>H16.out (zA (by decide) h)),Kh (fun h=>H18.out (zA (by decide) h)),Kh (fun h=>H20.out (zA (by decide) h)),Kh (fun h=>B3n.out (zC h)),Kh (fun h=>⟨zB (B3.out (zA (by decide) h)).1,zB (B3.out (zA (by decide) h)).2.1,(B3.out (zA (by decide) h)).2.2⟩),Kh (fun h=>B4n.out (zC h)),Kh (fun h=>⟨zB (B4.out (zA (by decide) h)).1,zB (B4.out (zA (by decide) h)).2.1,(B4.out (zA (by decide) h)).2.2⟩),Kh (fun h=>B5n.out (zC h)),Kh (fun h=>⟨zB (B5.out (zA (by decide) h)).1,zB (B5.out (zA (by decide) h)).2.1,(B5.out (zA (by decide) h)).2.2⟩),zE HB (Ga w (.cells #[Value.int .i64 (x:Int)] 3) none) (by simp),HM.alloc (.cells #[Value.int .i64 (x:Int)] 3)⟩
  case fa14=>rw [ha0];simp only [zL,List.foldl_cons,List.foldl_nil,Act.put,sPa,sPb,sPc]
 case s15 =>
  intro l a w h hun hdep K hK
  obtain ⟨x123,x124,x129,x130,x134,x135,x136,x137,x138,vE,nE,xE,vP,nP,xP,vL,nL,xL,ls,c3,c4,c5,ha,HR,H3,H4n,H4,H9,H10n,H10,H14,H15n,H15,H16,H18,H20,B3n,B3,B4n,B4,B5n,B5,HB,HM⟩:=h
  have DH14:=H14.out (zK (hdep ⟨14,.data⟩ (by simp) rfl))
  obtain ⟨g5,rfl,hg5⟩:=DH14
  obtain ⟨rfl,rfl,rfl⟩:=H15n.out hun
  have hdc:=zK (hdep ⟨10,.chain⟩ (by simp) rfl)
  subst ha
  rw [ha0]
  simp only [zL,List.foldl_cons,List.foldl_nil,Act.put,sPa,sPb,sPc]
  refine uV (by simp [Region.wanted]) (.tmp 132) (.tmp 134) 22 rfl yC 2 g5 1 rfl HM rfl rfl rfl rfl ?g115 ?g215 ?g315 hg5 rfl ?_
  case g115=>show m+1≤maxLen;unfold maxLen;omega
  case g215=>show (m+1) * 8≤140737488355328;omega
  case g315=>exact hbase
  intro sa sc w6 hM6 hg6
  refine hK.out _ _ ?_
  refine ⟨x123,x124,x129,x130,(.slice (some ⟨g5,0,none⟩) 1 1),(.slice sa (m+1) sc),x136,x137,x138,vE,nE,xE,vP,nP,xP,(.slice sa (m+1) sc),(m+1),((ints las) ++ [Value.int .i64 (x:Int)]),ls,c3,c4,c5,?fa15,fun j hj=>zB (HR j hj),Kh (fun h=>H3.out (zA (by decide) h)),Kh (fun h=>H4n.out (zC h)),Kh (fun h=>H4.out (zA (by decide) h)),Kh (fun h=>H9.out (zA (by decide) h)),Kh (fun h=>H10n.out (zC h)),Kh (fun h=>⟨zB (H10.out (zA (by decide) h)).1,(H10.out (zA (by decide) h)).2⟩),Kh (fun _=>⟨g5,rfl,hg5⟩),Kh (fun h=>yB h),Kh (fun _=>⟨zB hdc,sa,sc,rfl,rfl,rfl,rfl⟩),Kh (fun h=>H16.out (zA (by decide) h)),Kh (fun h=>H18.out (zA (by decide) h)),Kh (fun h=>H20.out (zA (by decide) h)),Kh (fun h=>B3n.out (zC h)),Kh (fun h=>absurd (B3.out (zA (by decide) h)).2.1 (by rw [hun];simp)),Kh (fun h=>B4n.out (zC h)),Kh (fun h=>⟨zB (B4.out (zA (by decide) h)).1,zB (B4.out (zA (by decide) h)).2.1,(B4.out (zA (by decide) h)).2.2⟩),Kh (fun h=>B5n.out (zC h)),Kh (fun h=>absurd (B5.out (zA (by decide) h)).1 (by rw [hun];simp)),zE HB hg6 (fun e=>HM.not_type HB (qL hrest) 2 _ rfl e),hM6⟩
  case fa15=>rw [ha0];simp only [zL,List.foldl_cons,List.foldl_nil,Act.put,sPa,sPb,sPc]
 case s16 =>
  intro l a w h hun hdep K hK
  obtain ⟨x123,x124,x129,x130,x134,x135,x136,x137,x138,vE,nE,xE,vP,nP,xP,vL,nL,xL,ls,c3,c4,c5,ha,HR,H3,H4n,H4,H9,H10n,H10,H14,H15n,H15,H16,H18,H20,B3n,B3,B4n,B4,B5n,B5,HB,HM⟩:=h
  subst ha
  rw [ha0]
  simp only [zL,List.foldl_cons,List.foldl_nil,Act.put,sPa,sPb,sPc]
  go_simp
  refine hK.out _ _ ?_
  refine ⟨x123,x124,x129,x130,x134,x135,(.pointer (some ⟨o,3,none⟩)),x137,x138,vE,nE,xE,vP,nP,xP,vL,nL,xL,ls,c3,c4,c5,?fa16,fun j hj=>zB (HR j hj),Kh (fun h=>H3.out (zA (by decide) h)),Kh (fun h=>H4n.out (zC h)),Kh (fun h=>H4.out (zA (by decide) h)),Kh (fun h=>H9.out (zA (by decide) h)),Kh (fun h=>H10n.out (zC h)),Kh (fun h=>⟨zB (H10.out (zA (by decide) h)).1,(H10.out (zA (by decide) h)).2⟩),Kh (fun h=>H14.out (zA (by decide) h)),Kh (fun h=>H15n.out (zC h)),Kh (fun h=>⟨zB (H15.out (zA (by decide) h)).1,(H15.out (zA (by decide) h)).2⟩),Kh (fun _=>rfl),Kh (fun h=>H18.out (zA (by decide) h)),Kh (fun h=>H20.out (zA (by decide) h)),Kh (fun h=>B3n.out (zC h)),Kh (fun h=>⟨zB (B3.out (zA (by decide) h)).1,zB (B3.out (zA (by decide) h)).2.1,(B3.out (zA (by decide) h)).2.2⟩),Kh (fun h=>B4n.out (zC h)),Kh (fun h=>⟨zB (B4.out (zA (by decide) h)).1,zB (B4.out (zA (by decide) h)).2.1,(B4.out (zA (by decide) h)).2.2⟩),Kh (fun h=>B5n.out (zC h)),Kh (fun h=>⟨zB (B5.out (zA (by decide) h)).1,zB (B5.out (zA (by decide) h)).2.1,(B5.out (zA (by decide) h)).2.2⟩),HB,HM⟩
  case fa16=>rw [ha0];simp only [zL,List.foldl_cons,List.foldl_nil,Act.put,sPa,sPb,sPc]
 case s17 =>
  intro l a w h hun hdep K hK
  obtain ⟨x123,x124,x129,x130,x134,x135,x136,x137,x138,vE,nE,xE,vP,nP,xP,vL,nL,xL,ls,c3,c4,c5,ha,HR,H3,H4n,H4,H9,H10n,H10,H14,H15n,H15,H16,H18,H20,B3n,B3,B4n,B4,B5n,B5,HB,HM⟩:=h
  have DH16:=H16.out (zK (hdep ⟨16,.data⟩ (by simp) rfl))
  have DH4:=H4.out (zK (hdep ⟨4,.data⟩ (by simp) rfl))
  subst DH16
  obtain ⟨sa,sc,rfl,rfl,rfl,rfl⟩:=DH4
  have hd6:=zK (hdep ⟨4,.data⟩ (by simp) rfl)
  subst ha
  rw [ha0]
  simp only [zL,List.foldl_cons,List.foldl_nil,Act.put,sPa,sPb,sPc]
  obtain ⟨k0,k1,k2,k3,k4,k5,k6,k7,k8⟩:=zX HB
  have kf:=zD HB 3
  go_simp
  have hg6:=zH w ⟨o,3,none⟩ (.slice sa (m+1) sc)
  have hs6:=heap_setCell_same w o 3 _ _ (.slice sa (m+1) sc) HB
  refine hK.out _ _ ?_
  refine ⟨x123,(.slice sa (m+1) sc),x129,x130,x134,x135,(.pointer (some ⟨o,3,none⟩)),x137,x138,(.slice sa (m+1) sc),(m+1),(hsE ++ [Value.slice (some ⟨gf,0,none⟩) n n]),vP,nP,xP,vL,nL,xL,ls,(.slice sa (m+1) sc),c4,c5,?fa17,fun j hj=>zB (HR j hj),Kh (fun h=>H3.out (zA (by decide) h)),Kh (fun h=>absurd (zB hd6) (by rw [h];simp)),Kh (fun _=>⟨sa,sc,rfl,rfl,rfl,rfl⟩),Kh (fun h=>H9.out (zA (by decide) h)),Kh (fun h=>H10n.out (zC h)),Kh (fun h=>⟨zB (H10.out (zA (by decide) h)).1,(H10.out (zA (by decide) h)).2⟩),Kh (fun h=>H14.out (zA (by decide) h)),Kh (fun h=>H15n.out (zC h)),Kh (fun h=>⟨zB (H15.out (zA (by decide) h)).1,(H15.out (zA (by decide) h)).2⟩),Kh (fun _=>rfl),Kh (fun h=>H18.out (zA (by decide) h)),Kh (fun h=>H20.out (zA (by decide) h)),Kh (fun h=>yB h),Kh (fun _=>⟨zB (zK (hdep ⟨4,.data⟩ (by simp) rfl)),zB (zK (hdep ⟨15,.chain⟩ (by simp) rfl)),rfl⟩),Kh (fun h=>B4n.out (zC h)),Kh (fun h=>absurd (B4.out (zA (by decide) h)).2.1 (by rw [hun];simp)),Kh (fun h=>B5n.out (zC h)),Kh (fun h=>⟨zB (B5.out (zA (by decide) h)).1,zB (B5.out (zA (by decide) h)).2.1,(B5.out (zA (by decide) h)).2.2⟩),(by simpa using hs6),HM.far hg6 hFo hoW (HM.not_type HB (qL hrest))⟩
  case fa17=>rw [ha0];simp only [zL,List.foldl_cons,List.foldl_nil,Act.put,sPa,sPb,sPc]
 case s18 =>
  intro l a w h hun hdep K hK
  obtain ⟨x123,x124,x129,x130,x134,x135,x136,x137,x138,vE,nE,xE,vP,nP,xP,vL,nL,xL,ls,c3,c4,c5,ha,HR,H3,H4n,H4,H9,H10n,H10,H14,H15n,H15,H16,H18,H20,B3n,B3,B4n,B4,B5n,B5,HB,HM⟩:=h
  subst ha
  rw [ha0]
  simp only [zL,List.foldl_cons,List.foldl_nil,Act.put,sPa,sPb,sPc]
  go_simp
  refine hK.out _ _ ?_
  refine ⟨x123,x124,x129,x130,x134,x135,x136,(.pointer (some ⟨o,4,none⟩)),x138,vE,nE,xE,vP,nP,xP,vL,nL,xL,ls,c3,c4,c5,?fa18,fun j hj=>zB (HR j hj),Kh (fun h=>H3.out (zA (by decide) h)),Kh (fun h=>H4n.out (zC h)),Kh (fun h=>H4.out (zA (by decide) h)),Kh (fun h=>H9.out (zA (by decide) h)),Kh (fun h=>H10n.out (zC h)),Kh (fun h=>⟨zB (H10.out (zA (by decide) h)).1,(H10.out (zA (by decide) h)).2⟩),Kh (fun h=>H14.out (zA (by decide) h)),Kh (fun h=>H15n.out (zC h)),Kh (fun h=>⟨zB (H15.out (zA (by decide) h)).1,(H15.out (zA (by decide) h)).2⟩),Kh (fun h=>H16.out (zA (by decide) h)),Kh (fun _=>rfl),Kh (fun h=>H20.out (zA (by decide) h)),Kh (fun h=>B3n.out (zC h)),Kh (fun h=>⟨zB (B3.out (zA (by decide) h)).1,zB (B3.out (zA (by decide) h)).2.1,(B3.out (zA (by decide) h)).2.2⟩),Kh (fun h=>B4n.out (zC h)),Kh (fun h=>⟨zB (B4.out (zA (by decide) h)).1,zB (B4.out (zA (by decide) h)).2.1,(B4.out (zA (by decide) h)).2.2⟩),Kh (fun h=>B5n.out (zC h)),Kh (fun h=>⟨zB (B5.out (zA (by decide) h)).1,zB (B5.out (zA (by decide) h)).2.1,(B5.out (zA (by decide) h)).2.2⟩),HB,HM⟩
  case fa18=>rw [ha0];simp only [zL,List.foldl_cons,List.foldl_nil,Act.put,sPa,sPb,sPc]
 case s19 =>
  intro l a w h hun hdep K hK
  obtain ⟨x123,x124,x129,x130,x134,x135,x136,x137,x138,vE,nE,xE,vP,nP,xP,vL,nL,xL,ls,c3,c4,c5,ha,HR,H3,H4n,H4,H9,H10n,H10,H14,H15n,H15,H16,H18,H20,B3n,B3,B4n,B4,B5n,B5,HB,HM⟩:=h
  have DH18:=H18.out (zK (hdep ⟨18,.data⟩ (by simp) rfl))
  have DH10:=H10.out (zK (hdep ⟨10,.data⟩ (by simp) rfl))
  subst DH18
  obtain ⟨hdr,sa,sc,rfl,rfl,rfl,rfl⟩:=DH10
  have hd6:=zK (hdep ⟨10,.data⟩ (by simp) rfl)
  subst ha
  rw [ha0]
  simp only [zL,List.foldl_cons,List.foldl_nil,Act.put,sPa,sPb,sPc]
  obtain ⟨k0,k1,k2,k3,k4,k5,k6,k7,k8⟩:=zX HB
  have kf:=zD HB 4
  go_simp
  have hg6:=zH w ⟨o,4,none⟩ (.slice sa (m+1) sc)
  have hs6:=heap_setCell_same w o 4 _ _ (.slice sa (m+1) sc) HB
  refine hK.out _ _ ?_
  refine ⟨x123,x124,x129,(.slice sa (m+1) sc),x134,x135,x136,(.pointer (some ⟨o,4,none⟩)),x138,vE,nE,xE,(.slice sa (m+1) sc),(m+1),(ints pre ++ [Value.int .i64 (d:Int)]),vL,nL,xL,ls,c3,(.slice sa (m+1) sc),c5,?fa19,fun j hj=>zB (HR j hj),Kh (fun h=>H3.out (zA (by decide) h)),Kh (fun h=>H4n.out (zC h)),Kh (fun h=>H4.out (zA (by decide) h)),Kh (fun h=>H9.out (zA (by decide) h)),Kh (fun h=>absurd (zB hd6) (by rw [h];simp)),Kh (fun _=>⟨zB hdr,sa,sc,rfl,rfl,rfl,rfl⟩),Kh (fun h=>H14.out (zA (by decide) h)),Kh (fun h=>H15n.out (zC h)),Kh (fun h=>⟨zB (H15.out (zA (by decide) h)).1,(H15.out (zA (by decide) h)).2⟩),Kh (fun h=>H16.out (zA (by decide) h)),Kh (fun _=>rfl),Kh (fun h=>H20.out (zA (by decide) h)),Kh (fun h=>B3n.out (zC h)),Kh (fun h=>⟨zB (B3.out (zA (by decide) h)).1,zB (B3.out (zA (by decide) h)).2.1,(B3.out (zA (by decide) h)).2.2⟩),Kh (fun h=>yB h),Kh (fun _=>⟨zB (zK (hdep ⟨10,.data⟩ (by simp) rfl)),zB (zK (hdep ⟨17,.chain⟩ (by simp) rfl)),rfl⟩),Kh (fun h=>B5n.out (zC h)),Kh (fun h=>absurd (B5.out (zA (by decide) h)).2.1 (by rw [hun];simp)),(by simpa using hs6),HM.far hg6 hFo hoW (HM.not_type HB (qL hrest))⟩
  case fa19=>rw [ha0];simp only [zL,List.foldl_cons,List.foldl_nil,Act.put,sPa,sPb,sPc]
 case s20 =>
  intro l a w h hun hdep K hK
  obtain ⟨x123,x124,x129,x130,x134,x135,x136,x137,x138,vE,nE,xE,vP,nP,xP,vL,nL,xL,ls,c3,c4,c5,ha,HR,H3,H4n,H4,H9,H10n,H10,H14,H15n,H15,H16,H18,H20,B3n,B3,B4n,B4,B5n,B5,HB,HM⟩:=h
  subst ha
  rw [ha0]
  simp only [zL,List.foldl_cons,List.foldl_nil,Act.put,sPa,sPb,sPc]
  go_simp
  refine hK.out _ _ ?_
  refine ⟨x123,x124,x129,x130,x134,x135,x136,x137,(.pointer (some ⟨o,5,none⟩)),vE,nE,xE,vP,nP,xP,vL,nL,xL,ls,c3,c4,c5,?fa20,fun j hj=>zB (HR j hj),Kh (fun h=>H3.out (zA (by decide) h)),Kh (fun h=>H4n.out (zC h)),Kh (fun h=>H4.out (zA (by decide) h)),Kh (fun h=>H9.out (zA (by decide) h)),Kh (fun h=>H10n.out (zC h)),Kh (fun h=>⟨zB (H10.out (zA (by decide) h)).1,(H10.out (zA (by decide) h)).2⟩),Kh (fun h=>H14.out (zA (by decide) h)),Kh (fun h=>H15n.out (zC h)),Kh (fun h=>⟨zB (H15.out (zA (by decide) h)).1,(H15.out (zA (by decide) h)).2⟩),Kh (fun h=>H16.out (zA (by decide) h)),Kh (fun h=>H18.out (zA (by decide) h)),Kh (fun _=>rfl),Kh (fun h=>B3n.out (zC h)),Kh (fun h=>⟨zB (B3.out (zA (by decide) h)).1,zB (B3.out (zA (by decide) h)).2.1,(B3.out (zA (by decide) h)).2.2⟩),Kh (fun h=>B4n.out (zC h)),Kh (fun h=>⟨zB (B4.out (zA (by decide) h)).1,zB (B4.out (zA (by decide) h)).2.1,(B4.out (zA (by decide) h)).2.2⟩),Kh (fun h=>B5n.out (zC h)),Kh (fun h=>⟨zB (B5.out (zA (by decide) h)).1,zB (B5.out (zA (by decide) h)).2.1,(B5.out (zA (by decide) h)).2.2⟩),HB,HM⟩
  case fa20=>rw [ha0];simp only [zL,List.foldl_cons,List.foldl_nil,Act.put,sPa,sPb,sPc]
 case s21 =>
  intro l a w h hun hdep K hK
  obtain ⟨x123,x124,x129,x130,x134,x135,x136,x137,x138,vE,nE,xE,vP,nP,xP,vL,nL,xL,ls,c3,c4,c5,ha,HR,H3,H4n,H4,H9,H10n,H10,H14,H15n,H15,H16,H18,H20,B3n,B3,B4n,B4,B5n,B5,HB,HM⟩:=h
  have DH20:=H20.out (zK (hdep ⟨20,.data⟩ (by simp) rfl))
  have DH15:=H15.out (zK (hdep ⟨15,.data⟩ (by simp) rfl))
  subst DH20
  obtain ⟨hdr,sa,sc,rfl,rfl,rfl,rfl⟩:=DH15
  have hd6:=zK (hdep ⟨15,.data⟩ (by simp) rfl)
  subst ha
  rw [ha0]
  simp only [zL,List.foldl_cons,List.foldl_nil,Act.put,sPa,sPb,sPc]
  obtain ⟨k0,k1,k2,k3,k4,k5,k6,k7,k8⟩:=zX HB
  have kf:=zD HB 5
  go_simp
  have hg6:=zH w ⟨o,5,none⟩ (.slice sa (m+1) sc)
  have hs6:=heap_setCell_same w o 5 _ _ (.slice sa (m+1) sc) HB
  refine hK.out _ _ ?_
  refine ⟨x123,x124,x129,x130,x134,(.slice sa (m+1) sc),x136,x137,(.pointer (some ⟨o,5,none⟩)),vE,nE,xE,vP,nP,xP,(.slice sa (m+1) sc),(m+1),(ints las ++ [Value.int .i64 (x:Int)]),ls,c3,c4,(.slice sa (m+1) sc),?fa21,fun j hj=>zB (HR j hj),Kh (fun h=>H3.out (zA (by decide) h)),Kh (fun h=>H4n.out (zC h)),Kh (fun h=>H4.out (zA (by decide) h)),Kh (fun h=>H9.out (zA (by decide) h)),Kh (fun h=>H10n.out (zC h)),Kh (fun h=>⟨zB (H10.out (zA (by decide) h)).1,(H10.out (zA (by decide) h)).2⟩),Kh (fun h=>H14.out (zA (by decide) h)),Kh (fun h=>absurd (zB hd6) (by rw [h];simp)),Kh (fun _=>⟨zB hdr,sa,sc,rfl,rfl,rfl,rfl⟩),Kh (fun h=>H16.out (zA (by decide) h)),Kh (fun h=>H18.out (zA (by decide) h)),Kh (fun _=>rfl),Kh (fun h=>B3n.out (zC h)),Kh (fun h=>⟨zB (B3.out (zA (by decide) h)).1,zB (B3.out (zA (by decide) h)).2.1,(B3.out (zA (by decide) h)).2.2⟩),Kh (fun h=>B4n.out (zC h)),Kh (fun h=>⟨zB (B4.out (zA (by decide) h)).1,zB (B4.out (zA (by decide) h)).2.1,(B4.out (zA (by decide) h)).2.2⟩),Kh (fun h=>yB h),Kh (fun _=>⟨zB (zK (hdep ⟨15,.data⟩ (by simp) rfl)),zB (zK (hdep ⟨19,.chain⟩ (by simp) rfl)),rfl⟩),(by simpa using hs6),HM.far hg6 hFo hoW (HM.not_type HB (qL hrest))⟩
  case fa21=>rw [ha0];simp only [zL,List.foldl_cons,List.foldl_nil,Act.put,sPa,sPb,sPc]
end Go.Proofs.YtdjhoadoiknaoaaDoor
namespace Go.Proofs.YtdjhoadoiknaoaaDoor
open Go.RowKit Go.Maps
theorem gD:Tryd.prog.underlying 141=some (.map 9 3):=by kernel_rfl
theorem jC:Tryd.prog.underlying 9=some .string:=by kernel_rfl
theorem dW:Keyed Tryd.prog 9:=string_keyed jC
def uB (w:World) (b n:Nat):Prop:=∃ D:DataW Unit,w.ownsMap Tryd.prog 9 (plainElem Tryd.prog 3) b n D
theorem uB.made (w:World):uB (w.alloc (.map #[] 0)) w.heap.size 0:=⟨.map [],World.ownsMap_made _ _ _ _⟩
theorem uB.kept {w w':World} {b n:Nat} {row:Option Nat} (h:uB w b n) (hg:w.grownBy w' row) (hne:row≠some b):uB w' b n:=by
 obtain ⟨D,h1⟩:=h
 exact ⟨D,h1.kept hg (fun e=>hne e.symm)⟩
theorem uB.mono {w:World} {b n n':Nat} (h:uB w b n) (hn:n≤n'):uB w b n':=by
 obtain ⟨D,h1⟩:=h
 exact ⟨D,h1.mono hn⟩
theorem uB.lt {w:World} {b n:Nat} (h:uB w b n):b < w.heap.size:=by
 obtain ⟨D,h1⟩:=h
 exact h1.lt
theorem uB.lookup {w:World} {b n:Nat} (h:uB w b n) {s:ByteArray} (hs:s.size≤maxLen):∃ (c:Int) (ok:Bool),(Instr.lookup 141 (.map (some b)) (.string s) true).run Tryd.prog w=.ok (.tuple #[.int .i64 c,.bool ok]) w:=by
 obtain ⟨D,h1⟩:=h
 obtain ⟨v,ps,hrun,hv⟩:=h1.look_ok dW gD (qAU w) (plainElem_int oO (by decide)) (Go.WideMaps.keyOf_string_mk jC hs)
 obtain ⟨c,rfl,hc,_⟩:=plainElem_int_inv oO hv
 exact ⟨c,_,hrun⟩
set_option maxRecDepth 100000 in
theorem fJ {w:World} {ops:Array Oper} {rest:List Oper} {o:Oper} {a:Act} {Q:Exit→Act→World→Prop} (hg:o.guard=none) (m x v:Operand) (hop:o.op=Op.mapUpdate 141 m x v)
  (b n:Nat) (s:ByteArray) (z:Int) (hm:a.eval m=.map (some b)) (hx:a.eval x=.string s) (hv:a.eval v=.int .i64 z) (h:uB w b n) (hn:n < maxLen) (hs:s.size≤maxLen) (hz:Mid z)
  (hK:∀ w',uB w' b (n+1)→w.grownBy w' (some b)→wpList Tryd.prog ops Q rest (a.put o.dst undef) w') :
  wpList Tryd.prog ops Q (o :: rest) a w:=by
 obtain ⟨D,h1⟩:=h
 obtain ⟨w',hrun,hown,hgr⟩:=h1.update dW gD hn (Go.WideMaps.keyOf_string_mk jC hs) (plainElem_int oO (qCY (x:=z) hz))
 refine wpList_plain hg fun K' hK'=>?_
 unfold Oper.wp
 simp [execOp,hop,hm,hx,hv,hrun,Result.andThen]
 exact hK' _ _ (hK w' ⟨_,hown⟩ hgr)
end Go.Proofs.YtdjhoadoiknaoaaDoor
namespace Go.Proofs.YtdjhoadoiknaoaaDoor
open Go.RowKit
theorem gY {w W:World} {sz m:Nat} {v:Value} {xs:List Value} (h:tD w sz v m xs) (hg:w.grownBy W none):tD W sz v m xs:=by
 rcases h with h|⟨b,off,cap,h1,h2,h3,h4⟩
 ·exact .inl h
 ·exact .inr ⟨b,off,cap,h1,h2,h3,fun j u hj=>yD (h4 j u hj) hg⟩
theorem lX {w W:World} (h:GrownBut w W (fun _=>False)):w.grownBy W none:=h.grown (zW w none) (fun k hk=>hk.elim)
theorem uB.ne_own {w:World} {mb q base e sz n:Nat} {v:Value} {xs:List Value} (h:uB w mb q) (ho:w.ownsRow base e sz v n xs):v.ownBlock≠some mb:=by
 obtain ⟨D,es,clock,hb,_⟩:=h
 rcases ho.2 with ⟨hv,_⟩|⟨g,cap,cur,hv,_,hg,_⟩
 ·rw [hv];simp [Value.ownBlock]
 ·rw [hv]
  intro e
  have e:g=mb:=by simpa [Value.ownBlock] using e
  subst e
  rw [hb] at hg
  simp at hg
theorem uB.ne_cells {w:World} {mb q b e:Nat} {c:Array Value} {m:Nat × Nat} (h:uB w mb q) (hb:w.heap[b]?=some (.cells c e m)):b≠mb:=by
 obtain ⟨D,es,clock,hm,_⟩:=h
 intro e;subst e
 rw [hm] at hb;simp at hb
theorem EMem.appLast {X:Nat→Prop} {W W':World} {rows:List RowS} {r r':RowS} (h:EMem X W (rows ++ [r])) (hg:W.grownBy W' r.v.ownBlock) (ho:W'.ownsRow r'.base r'.e r'.sz r'.v r'.n r'.xs) (hm:bN W W' r.v r'.v):EMem X W' (rows ++ [r']):=by
 obtain ⟨hp1,hp2,hp3⟩:=List.pairwise_append.1 h.apart
 have hnew:∀ k,r'.v.ownBlock=some k→r.v.ownBlock=some k∨W.heap.size≤k:=fun k hk=>by
  rcases hm with hm|⟨_,hm⟩
  ·exact .inl (by rw [← hm];exact hk)
  ·exact .inr (hm k hk)
 refine ⟨fun s hs=>?_,?_,fun s hs k hk hx=>?_,fun k hk=>Nat.lt_of_lt_of_le (h.lt k hk) hg.size⟩
 ·rcases List.mem_append.1 hs with hs|hs
  ·refine (h.own s (List.mem_append_left _ hs)).kept hg ?_
   rcases hb:s.v.ownBlock with _|k
   ·exact .inl rfl
   ·exact .inr (fun e=>hp3 s hs r (by simp) k hb e.symm)
  ·rw [List.mem_singleton] at hs;subst hs;exact ho
 ·rw [List.pairwise_append]
  refine ⟨hp1,by simp,fun s hs t ht k hk e=>?_⟩
  rw [List.mem_singleton] at ht
  subst ht
  rcases hnew k e with e2|e2
  ·exact hp3 s hs r (by simp) k hk e2
  ·have:=((h.own s (List.mem_append_left _ hs)).lt k hk).2;omega
 ·rcases List.mem_append.1 hs with hs|hs
  ·exact h.offX s (List.mem_append_left _ hs) k hk hx
  ·rw [List.mem_singleton] at hs;subst hs
   rcases hnew k hk with e2|e2
   ·exact h.offX r (by simp) k e2 hx
   ·have:=h.lt k hx;omega
def vY (l:List ByteArray):List Value:=l.map .string
inductive WordsS (X:Nat→Prop) (w0:World) (P o mb:Nat) (rows:List RowS) (box:Array Value) (m q:Nat) (sW:Option Addr) (cW:Nat) (w:World):Prop
 | mk (ws:List ByteArray) (hl:ws.length=q) (hsz:∀ i,(ws.getD i ⟨#[]⟩).size≤i) (hM:EMem X w (rows ++ [⟨P,9,.slice sW q cW,q,vY ws,1⟩])) (hMap:uB w mb q) (hB:w.heap[o]?=some (.cells box 106 (0,0)))
  (hBP:w.heap[P+1]?=some (.cells #[.int .i64 0,.bool false,.slice none 0 0,.slice none 0 0,.slice none 0 0,.slice none 0 0,.slice none 0 0,.slice none 0 0,.int .i64 0] 106 (0,0))) (hX:wY X w0 w) (hg:w0.grownBy w none)
theorem EMem.appAt {X:Nat→Prop} {W W':World} {rs:List RowS} (h:EMem X W rs) {j:Nat} {r:RowS} (hr:rs[j]?=some r) {v':Value} {n':Nat} {us:List Value} (ho:W'.ownsRow r.base r.e r.sz v' n' (r.xs ++ us)) (hg:W.grownBy W' r.v.ownBlock) (hm:bN W W' r.v v'):EMem X W' (rs.set j ⟨r.base,r.e,v',n',r.xs ++ us,r.sz⟩) :=
 h.after ((h.many (rS rs) (fun _ h=>h)).append hr ho hg hm) (fun k hk=>by obtain ⟨r,hr,hk⟩:=hk;exact h.offX r hr k hk)
def qAI (gs:List (List Nat)) (d x:Nat) (s:List (List Nat) × List Int × List Int × List Nat):List (List Nat) × List Int × List Int × List Nat :=
 if vQ (s.1.getD d []) (gs.getD x [])∈s.1 then (s.1,s.2.1,s.2.2.1,s.2.2.2 ++ [s.1.idxOf (vQ (s.1.getD d []) (gs.getD x []))])
 else (s.1 ++ [vQ (s.1.getD d []) (gs.getD x [])],s.2.1 ++ [(d:Int)],s.2.2.1 ++ [(x:Int)],s.2.2.2 ++ [s.1.length])
def oB (gs:List (List Nat)) (d:Nat) (s:List (List Nat) × List Int × List Int):Nat→List (List Nat) × List Int × List Int × List Nat
 | 0=>(s.1,s.2.1,s.2.2,[])
 | x+1=>qAI gs d x (oB gs d s x)
def wW (gs:List (List Nat)) (s:List (List Nat) × List Int × List Int):Nat→(List (List Nat) × List Int × List Int) × List (List Nat)
 | 0=>(s,[])
 | d+1=>(((oB gs d (wW gs s d).1 gs.length).1,(oB gs d (wW gs s d).1 gs.length).2.1,(oB gs d (wW gs s d).1 gs.length).2.2.1),(wW gs s d).2 ++ [(oB gs d (wW gs s d).1 gs.length).2.2.2])
inductive ProcS (w0:World) (P o mb n:Nat) (gA:Option Addr) (gN gC:Nat) (gs els:List (List Nat)) (pre las:List Int) (right:List (List Nat)) (m d ub:Nat) (sW:Option Addr) (cW:Nat) (tl:List RowS) (w:World):Prop
 | mk (X:Nat→Prop) (u:Nat) (us hsE hsR:List Value) (ws:List ByteArray) (sE:Option Addr) (cE:Nat) (sP:Option Addr) (cP:Nat) (sL:Option Addr) (cL:Nat) (sR:Option Addr) (cR:Nat) (sU:Option Addr) (cU:Nat)
  (hl:els.length=m) (hpl:pre.length=m) (hll:las.length=m) (hrl:right.length=d) (hit:∀ f∈els,IsT n f) (hu:u≤ub) (hwl:ws.length=m) (hwz:∀ i,(ws.getD i ⟨#[]⟩).size≤i)
  (hM:EMem X w ([⟨P,22,.slice sE m cE,m,hsE,1⟩,⟨P,3,.slice sP m cP,m,ints pre,1⟩,⟨P,3,.slice sL m cL,m,ints las,1⟩,⟨P,22,.slice sR d cR,d,hsR,1⟩,⟨P,140,.slice sU u cU,u,us,2⟩,⟨P,9,.slice sW m cW,m,vY ws,1⟩] ++ tl))
  (hE:tY X 3 nats w hsE els) (hR:tY X 3 nats w hsR right) (hG:TX X w (.slice gA gN gC) gs) (hX:¬ X o∧¬ X (P+1)∧¬ X mb) (hMap:uB w mb m)
  (hB:w.heap[o]?=some (.cells #[.int .i64 n,.bool true,.slice gA gN gC,.slice sE m cE,.slice sP m cP,.slice sL m cL,.slice sR d cR,.slice sU u cU,.int .i64 d] 106 (0,0)))
  (hBP:w.heap[P+1]?=some (.cells #[.int .i64 0,.bool false,.slice none 0 0,.slice none 0 0,.slice none 0 0,.slice none 0 0,.slice none 0 0,.slice none 0 0,.int .i64 0] 106 (0,0))) (hg:w0.grownBy w none)
theorem EMem.dropLast {X:Nat→Prop} {W:World} {rs:List RowS} {r:RowS} (h:EMem X W (rs ++ [r])):EMem X W rs:=⟨fun s hs=>h.own s (List.mem_append_left _ hs),(List.pairwise_append.1 h.apart).1,fun s hs=>h.offX s (List.mem_append_left _ hs),h.lt⟩
def bM (gs:List (List Nat)) (s:List (List Nat) × List Int × List Int) (n:Nat):Prop:=∃ d x,d < (wW gs s d).1.1.length∧x≤gs.length∧(oB gs d (wW gs s d).1 x).1.length=2000∧∀ f∈(oB gs d (wW gs s d).1 x).1,IsT n f
def ProcOk (gs els:List (List Nat)) (pre las:List Int) (n bd:Nat) (gv:Value) (w:World) (e:Ending) (w':World):Prop :=
 (e=.returned (.tuple #[.agg #[.int .i64 0,.bool false,.slice none 0 0,.slice none 0 0,.slice none 0 0,.slice none 0 0,.slice none 0 0,.slice none 0 0,.int .i64 0],.int .i64 3])∧bM gs (els,pre,las) n∧w.grownBy w' none) ∨
 ∃ (X:Nat→Prop) (el:List (List Nat)) (pr la:List Int) (ri:List (List Nat)) (m d u:Nat) (us hsE hsR:List Value) (sE:Option Addr) (cE:Nat) (sP:Option Addr) (cP:Nat) (sL:Option Addr) (cL:Nat) (sR:Option Addr) (cR:Nat) (sU:Option Addr) (cU:Nat),
  e=.returned (.tuple #[.agg #[.int .i64 n,.bool true,gv,.slice sE m cE,.slice sP m cP,.slice sL m cL,.slice sR d cR,.slice sU u cU,.int .i64 d],.int .i64 0])∧wW gs (els,pre,las) d=((el,pr,la),ri)∧(d=m∨d=bd)∧m≤2000∧d≤m∧el.length=m∧pr.length=m∧la.length=m∧ri.length=d∧(∀ f∈el,IsT n f) ∧
  EMem X w' [⟨w.heap.size,22,.slice sE m cE,m,hsE,1⟩,⟨w.heap.size,3,.slice sP m cP,m,ints pr,1⟩,⟨w.heap.size,3,.slice sL m cL,m,ints la,1⟩,⟨w.heap.size,22,.slice sR d cR,d,hsR,1⟩,⟨w.heap.size,140,.slice sU u cU,u,us,2⟩]∧tY X 3 nats w' hsE el∧tY X 3 nats w' hsR ri∧TX X w' gv gs∧w.grownBy w' none
theorem bstrs_snoc (ws:List ByteArray) (s:ByteArray):vY (ws ++ [s])=vY ws ++ [.string s]:=by simp [vY]
theorem words_snoc {ws:List ByteArray} {s:ByteArray} {q:Nat} (hl:ws.length=q) (hz:∀ i,(ws.getD i ⟨#[]⟩).size≤i) (hs:s.size≤q) (i:Nat):((ws ++ [s]).getD i ⟨#[]⟩).size≤i:=by
 rcases Nat.lt_or_ge i q with h|h
 ·rw [List.getD_eq_getElem?_getD,List.getElem?_append_left (by rw [hl];exact h),← List.getD_eq_getElem?_getD]
  exact hz i
 ·rcases Nat.eq_or_lt_of_le h with e|h
  ·subst e
   rw [List.getD_eq_getElem?_getD,List.getElem?_append_right (by rw [hl];exact Nat.le_refl _),hl]
   simpa using hs
  ·rw [List.getD_eq_getElem?_getD,List.getElem?_eq_none (by simp [hl];omega)]
   simp [ByteArray.size]
inductive MidS (w0:World) (P o mb n:Nat) (gA:Option Addr) (gN gC:Nat) (gs els:List (List Nat)) (pre las:List Int) (right:List (List Nat)) (m q c d ub:Nat) (sW:Option Addr) (cW:Nat) (tl:List RowS) (w:World):Prop
 | mk (X:Nat→Prop) (u:Nat) (us hsE hsR:List Value) (ws:List ByteArray) (sE:Option Addr) (cE:Nat) (sP:Option Addr) (cP:Nat) (sL:Option Addr) (cL:Nat) (sR:Option Addr) (cR:Nat) (sU:Option Addr) (cU:Nat)
  (hl:els.length=m) (hpl:pre.length=m) (hll:las.length=m) (hrl:right.length=d) (hit:∀ f∈els,IsT n f) (hu:u≤ub) (hwl:ws.length=q) (hwz:∀ i,(ws.getD i ⟨#[]⟩).size≤i)
  (hM:EMem X w ([⟨P,22,.slice sE m cE,m,hsE,1⟩,⟨P,3,.slice sP m cP,m,ints pre,1⟩,⟨P,3,.slice sL m cL,m,ints las,1⟩,⟨P,22,.slice sR d cR,d,hsR,1⟩,⟨P,140,.slice sU u cU,u,us,2⟩,⟨P,9,.slice sW q cW,q,vY ws,1⟩] ++ tl))
  (hE:tY X 3 nats w hsE els) (hR:tY X 3 nats w hsR right) (hG:TX X w (.slice gA gN gC) gs) (hX:¬ X o∧¬ X (P+1)∧¬ X mb) (hMap:uB w mb c)
  (hB:w.heap[o]?=some (.cells #[.int .i64 n,.bool true,.slice gA gN gC,.slice sE m cE,.slice sP m cP,.slice sL m cL,.slice sR d cR,.slice sU u cU,.int .i64 d] 106 (0,0)))
  (hBP:w.heap[P+1]?=some (.cells #[.int .i64 0,.bool false,.slice none 0 0,.slice none 0 0,.slice none 0 0,.slice none 0 0,.slice none 0 0,.slice none 0 0,.int .i64 0] 106 (0,0))) (hg:w0.grownBy w none)
section
variable {w0 w:World} {P o mb n gN gC m q c d ub cW:Nat} {gA sW:Option Addr} {gs els right:List (List Nat)} {pre las:List Int} {tl:List RowS}
theorem MidS.app (h:MidS w0 P o mb n gA gN gC gs els pre las right m q c d ub sW cW tl w) (hP0:w0.heap.size≤P):∃ ws,w.ownsRow P 9 1 (.slice sW q cW) q (vY ws)∧∀ (s:ByteArray) (sW':Option Addr) (cW':Nat) (w':World),s.size≤q→w'.ownsRow P 9 1 (.slice sW' (q+1) cW') (q+1) (vY ws ++ [.string s])→w.grownBy w' (Value.slice sW q cW).ownBlock→bN w w' (.slice sW q cW) (.slice sW' (q+1) cW')→MidS w0 P o mb n gA gN gC gs els pre las right m (q+1) c d ub sW' cW' tl w':=by
 obtain ⟨X,u,us,hsE,hsR,ws,sE,cE,sP,cP,sL,cL,sR,cR,sU,cU,hl,hpl,hll,hrl,hit,hu,hwl,hwz,hM,hE,hR,hG,hX,hMap,hB,hBP,hg⟩:=h
 have ho:w.ownsRow P 9 1 (.slice sW q cW) q (vY ws):=hM.own ⟨P,9,.slice sW q cW,q,vY ws,1⟩ (by simp)
 refine ⟨ws,ho,fun s sW' cW' w' hs ho' hg' hm'=>?_⟩
 have k:=wY.of_grown hM.lt hg' (fun j e hx=>hM.offX ⟨P,9,.slice sW q cW,q,vY ws,1⟩ (by simp) j e hx)
 refine .mk X u us hsE hsR (ws ++ [s]) sE cE sP cP sL cL sR cR sU cU hl hpl hll hrl hit hu (by simp [hwl]) (words_snoc hwl hwz hs) ?_ (hE.kept k hg'.size) (hR.kept k hg'.size) (hG.kept k hg'.size) hX (hMap.kept hg' (hMap.ne_own ho)) (zE hB hg' (zS ho hB (by decide))) (zE hBP hg' (zS ho hBP (by decide))) (zG hg hg' (fun j e=>by have:=(ho.lt j e).1;omega))
 rw [bstrs_snoc]
 exact hM.appAt (j:=5) rfl (us:=[.string s]) ho' hg' hm'
theorem MidS.put (h:MidS w0 P o mb n gA gN gC gs els pre las right m q c d ub sW cW tl w) (hP0:w0.heap.size≤mb):uB w mb c∧∀ w',uB w' mb (c+1)→w.grownBy w' (some mb)→q=m→c+1=m→ProcS w0 P o mb n gA gN gC gs els pre las right m d ub sW cW tl w':=by
 obtain ⟨X,u,us,hsE,hsR,ws,sE,cE,sP,cP,sL,cL,sR,cR,sU,cU,hl,hpl,hll,hrl,hit,hu,hwl,hwz,hM,hE,hR,hG,hX,hMap,hB,hBP,hg⟩:=h
 refine ⟨hMap,fun w' hMap' hg' e1 e2=>?_⟩
 subst e1;subst e2
 have k:=wY.of_grown hM.lt hg' (fun j e hx=>by have e:mb=j:=Oj e;subst e;exact hX.2.2 hx)
 exact .mk X u us hsE hsR ws sE cE sP cP sL cL sR cR sU cU hl hpl hll hrl hit hu hwl hwz (hM.far hg' (fun r hr=>hMap.ne_own (hM.own r hr))) (hE.kept k hg'.size) (hR.kept k hg'.size) (hG.kept k hg'.size) hX hMap' (zE hB hg' (fun e=>hMap.ne_cells hB (Oj e).symm)) (zE hBP hg' (fun e=>hMap.ne_cells hBP (Oj e).symm)) (zG hg hg' (fun j e=>by have e:mb=j:=Oj e;omega))
theorem ProcS.row {x:Nat} {sr:Option Addr} {cr:Nat} {ro:List Nat} (h:ProcS w0 P o mb n gA gN gC gs els pre las right m d ub sW cW [⟨P,3,.slice sr x cr,x,nats ro,1⟩] w) (hP0:w0.heap.size≤P):w.ownsRow P 3 1 (.slice sr x cr) x (nats ro)∧∀ (i:Nat) (sr':Option Addr) (cr':Nat) (w':World),w'.ownsRow P 3 1 (.slice sr' (x+1) cr') (x+1) (nats ro ++ [.int .i64 (i:Int)])→w.grownBy w' (Value.slice sr x cr).ownBlock→bN w w' (.slice sr x cr) (.slice sr' (x+1) cr')→ProcS w0 P o mb n gA gN gC gs els pre las right m d ub sW cW [⟨P,3,.slice sr' (x+1) cr',x+1,nats (ro ++ [i]),1⟩] w':=by
 obtain ⟨X,u,us,hsE,hsR,ws,sE,cE,sP,cP,sL,cL,sR,cR,sU,cU,hl,hpl,hll,hrl,hit,hu,hwl,hwz,hM,hE,hR,hG,hX,hMap,hB,hBP,hg⟩:=h
 have ho:w.ownsRow P 3 1 (.slice sr x cr) x (nats ro):=hM.own ⟨P,3,.slice sr x cr,x,nats ro,1⟩ (by simp)
 refine ⟨ho,fun i sr' cr' w' ho' hg' hm'=>?_⟩
 have k:=wY.of_grown hM.lt hg' (fun j e hx=>hM.offX ⟨P,3,.slice sr x cr,x,nats ro,1⟩ (by simp) j e hx)
 refine .mk X u us hsE hsR ws sE cE sP cP sL cL sR cR sU cU hl hpl hll hrl hit hu hwl hwz ?_ (hE.kept k hg'.size) (hR.kept k hg'.size) (hG.kept k hg'.size) hX (hMap.kept hg' (hMap.ne_own ho)) (zE hB hg' (zS ho hB (by decide))) (zE hBP hg' (zS ho hBP (by decide))) (zG hg hg' (fun j e=>by have:=(ho.lt j e).1;omega))
 rw [show nats (ro ++ [i])=nats ro ++ [.int .i64 (i:Int)] by simp [nats]]
 exact hM.appAt (j:=6) rfl (us:=[.int .i64 (i:Int)]) ho' hg' hm'
theorem ProcS.more {ub':Nat} (h:ProcS w0 P o mb n gA gN gC gs els pre las right m d ub sW cW tl w) (hu':ub≤ub'):ProcS w0 P o mb n gA gN gC gs els pre las right m d ub' sW cW tl w:=by
 obtain ⟨X,u,us,hsE,hsR,ws,sE,cE,sP,cP,sL,cL,sR,cR,sU,cU,hl,hpl,hll,hrl,hit,hu,hwl,hwz,hM,hE,hR,hG,hX,hMap,hB,hBP,hg⟩:=h
 exact .mk X u us hsE hsR ws sE cE sP cP sL cL sR cR sU cU hl hpl hll hrl hit (Nat.le_trans hu hu') hwl hwz hM hE hR hG hX hMap hB hBP hg
theorem ProcS.grow {w':World} (h:ProcS w0 P o mb n gA gN gC gs els pre las right m d ub sW cW tl w) (hg':w.grownBy w' none):ProcS w0 P o mb n gA gN gC gs els pre las right m d ub sW cW tl w':=by
 obtain ⟨X,u,us,hsE,hsR,ws,sE,cE,sP,cP,sL,cL,sR,cR,sU,cU,hl,hpl,hll,hrl,hit,hu,hwl,hwz,hM,hE,hR,hG,hX,hMap,hB,hBP,hg⟩:=h
 have k:=hM.keep hg'
 exact .mk X u us hsE hsR ws sE cE sP cP sL cL sR cR sU cU hl hpl hll hrl hit hu hwl hwz (hM.grow hg') (hE.kept k hg'.size) (hR.kept k hg'.size) (hG.kept k hg'.size) hX (hMap.kept hg' (by simp)) (zE hB hg' (by simp)) (zE hBP hg' (by simp)) (zG hg hg' (by simp))
theorem uB.same {w w':World} {b q:Nat} (h:uB w b q) (e:w'.heap[b]?=w.heap[b]?):uB w' b q:=by
 obtain ⟨D,es,clock,hb,h2⟩:=h
 exact ⟨D,es,clock,e.trans hb,h2⟩
theorem ProcS.new24 {w4:World} {gf x:Nat} {f:List Nat} (h:ProcS w0 P o mb n gA gN gC gs els pre las right m d ub sW cW tl w) (hP0:w0.heap.size≤P) (hoP:P+1 < o) (hg4:w.grownBy w4 none) (hgf:w.heap.size≤gf) (hAf:Arr w4 gf 3 (nats f)) (hfl:f.length=n) (hn:n≤maxLen) (hfi:IsT n f) (htl:∀ r∈tl,r.base=P∧r.e≠106) :
  ∃ (FF:Nat→Prop) (u:Nat) (hsE:List Value) (rest:List RowS) (sE:Option Addr) (cE:Nat) (sP:Option Addr) (cP:Nat) (sL:Option Addr) (cL:Nat) (sR:Option Addr) (cR:Nat) (sU:Option Addr) (cU:Nat),FF o∧P≤w4.heap.size∧o < w4.heap.size∧(∀ r∈rest,r.e≠106) ∧
   w4.heap[o]?=some (.cells #[.int .i64 n,.bool true,.slice gA gN gC,.slice sE m cE,.slice sP m cP,.slice sL m cL,.slice sR d cR,.slice sU u cU,.int .i64 d] 106 (0,0)) ∧
   Many w4 FF w4 (⟨P,22,.slice sE m cE,m,hsE,1⟩ :: ⟨P,3,.slice sP m cP,m,ints pre,1⟩ :: ⟨P,3,.slice sL m cL,m,ints las,1⟩ :: rest) [] [] ∧
   ∀ (w6:World) (s1:Option Addr) (c1:Nat) (s2:Option Addr) (c2:Nat) (s3:Option Addr) (c3:Nat) (ls:List (Nat × Obj)),Many w4 FF w6 (⟨P,22,.slice s1 (m+1) c1,m+1,hsE ++ [.slice (some ⟨gf,0,none⟩) n n],1⟩ :: ⟨P,3,.slice s2 (m+1) c2,m+1,ints pre ++ [.int .i64 (d:Int)],1⟩ :: ⟨P,3,.slice s3 (m+1) c3,m+1,ints las ++ [.int .i64 (x:Int)],1⟩ :: rest) ls [] →
    w6.heap[o]?=some (.cells #[.int .i64 n,.bool true,.slice gA gN gC,.slice s1 (m+1) c1,.slice s2 (m+1) c2,.slice s3 (m+1) c3,.slice sR d cR,.slice sU u cU,.int .i64 d] 106 (0,0)) →
    MidS w0 P o mb n gA gN gC gs (els ++ [f]) (pre ++ [(d:Int)]) (las ++ [(x:Int)]) right (m+1) m m d ub sW cW tl w6:=by
 obtain ⟨X,u,us,hsE,hsR,ws,sE,cE,sP,cP,sL,cL,sR,cR,sU,cU,hl,hpl,hll,hrl,hit,hu,hwl,hwz,hM,hE,hR,hG,hX,hMap,hB,hBP,hg⟩:=h
 have hM4:=hM.fresh (W':=w4) hg4 (Y:=fun j=>j=gf) (fun k e=>by subst e;exact ⟨hgf,hAf.lt⟩)
 have k4:=hM.keep hg4
 have hB4:=zE hB hg4 (by simp)
 have hBP4:=zE hBP hg4 (by simp)
 have hMap4:=hMap.kept hg4 (by simp)
 have ho4:=zQ hB4
 have hXo:¬ (X o∨o=gf):=fun h=>h.elim hX.1 (fun e=>by have:=zQ hB;omega)
 have hXp:¬ (X (P+1)∨P+1=gf):=fun h=>h.elim hX.2.1 (fun e=>by have:=zQ hBP;omega)
 have hXm:¬ (X mb∨mb=gf):=fun h=>h.elim hX.2.2 (fun e=>by have:=hMap.lt;omega)
 have hty:∀ r∈([⟨P,22,.slice sE m cE,m,hsE,1⟩,⟨P,3,.slice sP m cP,m,ints pre,1⟩,⟨P,3,.slice sL m cL,m,ints las,1⟩,⟨P,22,.slice sR d cR,d,hsR,1⟩,⟨P,140,.slice sU u cU,u,us,2⟩,⟨P,9,.slice sW m cW,m,vY ws,1⟩] ++ tl),r.base=P∧r.e≠106:=by
  intro r hr
  rcases List.mem_append.1 hr with hr|hr
  ·simp only [List.mem_cons,List.not_mem_nil,or_false] at hr
   rcases hr with rfl|rfl|rfl|rfl|rfl|rfl <;> simp
  ·exact htl r hr
 obtain ⟨rows,hrows⟩:∃ rows:List RowS,rows=[⟨P,22,.slice sE m cE,m,hsE,1⟩,⟨P,3,.slice sP m cP,m,ints pre,1⟩,⟨P,3,.slice sL m cL,m,ints las,1⟩,⟨P,22,.slice sR d cR,d,hsR,1⟩,⟨P,140,.slice sU u cU,u,us,2⟩,⟨P,9,.slice sW m cW,m,vY ws,1⟩] ++ tl:=⟨_,rfl⟩
 rw [← hrows] at hM4 hty
 have hfo:∀ k,rS rows k→w0.heap.size≤k∧k≠o∧k≠P+1∧k≠mb∧¬ (X k∨k=gf):=by
  intro k hk
  obtain ⟨r,hr,hk⟩:=hk
  have hown:=hM4.own r hr
  have hr2:=hty r hr
  refine ⟨?_,fun e=>?_,fun e=>?_,fun e=>?_,hM4.offX r hr k hk⟩
  ·have:=(hown.lt k hk).1
   rw [hr2.1] at this;omega
  ·subst e;exact zS hown hB4 hr2.2 hk
  ·subst e;exact zS hown hBP4 hr2.2 hk
  ·subst e;exact hMap4.ne_own hown hk
 have hmo:mb≠o:=fun e=>hMap4.ne_cells hB4 e.symm
 have hFX:∀ k,(rS rows k∨k=o)→¬ (X k∨k=gf):=fun k hk=>hk.elim (fun h=>(hfo k h).2.2.2.2) (fun e=>by subst e;exact hXo)
 refine ⟨fun k=>rS rows k∨k=o,u,hsE,[⟨P,22,.slice sR d cR,d,hsR,1⟩,⟨P,140,.slice sU u cU,u,us,2⟩,⟨P,9,.slice sW m cW,m,vY ws,1⟩] ++ tl,sE,cE,sP,cP,sL,cL,sR,cR,sU,cU,.inr rfl,Nat.le_of_lt (Nat.lt_of_succ_lt (zQ hBP4)),ho4,?_,hB4,?_,?_⟩
 ·intro r hr
  exact (hty r (by rw [hrows];exact List.Mem.tail _ (List.Mem.tail _ (List.Mem.tail _ hr)))).2
 ·have:=hM4.many (fun k=>rS rows k∨k=o) (fun k hk=>.inl hk)
  rw [hrows] at this ⊢
  exact this
 ·intro w6 s1 c1 s2 c2 s3 c3 ls hM6 hB6
  have hEM6:=hM4.after hM6 hFX
  have k6:=hM4.keepMany hM6 hFX
  have hBP6:=hM6.but.heap hBP4 (fun h=>h.elim (fun h=>(hfo _ h).2.2.1 rfl) (fun e=>by omega))
  have hMap6:=hMap4.same (hM6.but.block mb hMap4.lt (fun h=>h.elim (fun h=>(hfo _ h).2.2.2.1 rfl) hmo))
  have hg6:=hM6.but.grown (zG hg hg4 (by simp)) (fun k hk=>.inr (hk.elim (fun h=>(hfo k h).1) (fun e=>by omega)))
  have hrf:RowX (fun k=>X k∨k=gf) 3 w4 (.slice (some ⟨gf,0,none⟩) n n) (nats f):=by
   refine ⟨?_,fun j e=>?_⟩
   ·have:=hAf.rowT' (cap:=n) (by rw [zN,hfl];exact Nat.le_refl _) hn
    rwa [zN,hfl] at this
   ·have e:gf=j:=by simpa [Value.ownBlock] using e
    exact .inr e.symm
  refine .mk (fun k=>X k∨k=gf) u us (hsE ++ [.slice (some ⟨gf,0,none⟩) n n]) hsR ws s1 c1 s2 c2 s3 c3 sR cR sU cU (by simp [hl]) (by simp [hpl]) (by simp [hll]) hrl ?_ hu hwl hwz ?_ ((((hE.kept k4 hg4.size).mono (fun k hk=>.inl hk)).snoc hrf).kept k6 hM6.but.size) (((hR.kept k4 hg4.size).mono (fun k hk=>.inl hk)).kept k6 hM6.but.size) (((hG.kept k4 hg4.size).mono (fun k hk=>.inl hk)).kept k6 hM6.but.size) ⟨hXo,hXp,hXm⟩ hMap6 hB6 hBP6 hg6
  ·intro g hg
   rcases List.mem_append.1 hg with h|h
   ·exact hit g h
   ·rw [List.mem_singleton] at h;subst h;exact hfi
  ·rw [show ints (pre ++ [(d:Int)])=ints pre ++ [.int .i64 (d:Int)] by simp [ints],show ints (las ++ [(x:Int)])=ints las ++ [.int .i64 (x:Int)] by simp [ints]]
   exact hEM6
theorem ProcS.word (h:ProcS w0 P o mb n gA gN gC gs els pre las right m d ub sW cW tl w) {i:Nat} (hi:i < m):∃ (lb:Nat) (V:ByteArray),sW=some ⟨lb,0,none⟩∧m≤cW∧cW≤maxLen∧w.cell? ⟨lb,i,none⟩=some (.string V)∧V.size≤i:=by
 obtain ⟨X,u,us,hsE,hsR,ws,sE,cE,sP,cP,sL,cL,sR,cR,sU,cU,hl,hpl,hll,hrl,hit,hu,hwl,hwz,hM,hE,hR,hG,hX,hMap,hB,hBP,hg⟩:=h
 have ho:w.ownsRow P 9 1 (.slice sW m cW) m (vY ws):=hM.own ⟨P,9,.slice sW m cW,m,vY ws,1⟩ (by simp)
 obtain ⟨lb,rfl,hl1,hl2,hLA⟩:=yK ho (by omega)
 have hcell:=hLA.cell i (by simp [vY,hwl];exact hi)
 have hcd:(vY ws)[i]'(by simp [vY,hwl];exact hi)=.string (ws.getD i ⟨#[]⟩):=by
  simp [vY,List.getD_eq_getElem?_getD,hwl,hi]
 rw [hcd] at hcell
 exact ⟨lb,_,rfl,hl1,hl2,hcell,hwz i⟩
theorem cell_owned {w w':World} {b e n lb c i:Nat} {xs:List Value} {u:Value} (h:w.ownsRow b e 1 (.slice (some ⟨lb,0,none⟩) n c) n xs) (h':w'.ownsRow b e 1 (.slice (some ⟨lb,0,none⟩) n c) n xs) (hi:i < n) (hc:w.cell? ⟨lb,i,none⟩=some u):w'.cell? ⟨lb,i,none⟩=some u:=by
 have hl:xs.length=n:=by have:=h.1;omega
 obtain ⟨k,e1,_,_,hA⟩:=yK h (by omega)
 obtain ⟨k',e2,_,_,hA'⟩:=yK h' (by omega)
 have e1:lb=k:=by simpa using e1
 have e2:lb=k':=by simpa using e2
 subst e1;subst e2
 rw [hA.cell i (by omega)] at hc
 rw [hA'.cell i (by omega),hc]
theorem ProcS.new30 {lb:Nat} (h:ProcS w0 P o mb n gA gN gC gs els pre las right m d ub (some ⟨lb,0,none⟩) cW tl w) (hP0:w0.heap.size≤P) (hoP:P+1 < o) (htl:∀ r∈tl,r.base=P∧r.e≠106) :
  ∃ (u:Nat) (us:List Value) (sU:Option Addr) (cU:Nat) (rs:List RowS),w.cell? ⟨o,7,none⟩=some (.slice sU u cU)∧u≤ub∧rs[4]?=some ⟨P,140,.slice sU u cU,u,us,2⟩∧∀ w9,w.grownBy w9 none→Many w9 (rS rs) w9 rs [] []∧P≤w9.heap.size ∧
   ∀ (wM:World) (sU':Option Addr) (cU':Nat) (us2:List Value),Many w9 (rS rs) wM (rs.set 4 ⟨P,140,.slice sU' (u+1) cU',u+1,us ++ us2,2⟩) [] [] →
    wM.cell? ⟨o,7,none⟩=some (.slice sU u cU)∧wM.frozen? ⟨o,7,none⟩=false∧(∀ (i:Nat) (V:Value),i < m→w.cell? ⟨lb,i,none⟩=some V→wM.cell? ⟨lb,i,none⟩=some V) ∧
    ProcS w0 P o mb n gA gN gC gs els pre las right m d (ub+1) (some ⟨lb,0,none⟩) cW tl (wM.setCell ⟨o,7,none⟩ (.slice sU' (u+1) cU')):=by
 obtain ⟨X,u,us,hsE,hsR,ws,sE,cE,sP,cP,sL,cL,sR,cR,sU,cU,hl,hpl,hll,hrl,hit,hu,hwl,hwz,hM,hE,hR,hG,hX,hMap,hB,hBP,hg⟩:=h
 refine ⟨u,us,sU,cU,[⟨P,22,.slice sE m cE,m,hsE,1⟩,⟨P,3,.slice sP m cP,m,ints pre,1⟩,⟨P,3,.slice sL m cL,m,ints las,1⟩,⟨P,22,.slice sR d cR,d,hsR,1⟩,⟨P,140,.slice sU u cU,u,us,2⟩,⟨P,9,.slice (some ⟨lb,0,none⟩) m cW,m,vY ws,1⟩] ++ tl,(zX hB).2.2.2.2.2.2.2.1,hu,rfl,fun w9 hg9=>?_⟩
 have hM9:=hM.grow hg9
 have k9:=hM.keep hg9
 have hB9:=zE hB hg9 (by simp)
 have hBP9:=zE hBP hg9 (by simp)
 have hMap9:=hMap.kept hg9 (by simp)
 refine ⟨hM9.many (rS _) (fun _ h=>h),by have:=zQ hBP9;omega,fun wM sU' cU' us2 hMM=>?_⟩
 have hty:∀ r∈([⟨P,22,.slice sE m cE,m,hsE,1⟩,⟨P,3,.slice sP m cP,m,ints pre,1⟩,⟨P,3,.slice sL m cL,m,ints las,1⟩,⟨P,22,.slice sR d cR,d,hsR,1⟩,⟨P,140,.slice sU u cU,u,us,2⟩,⟨P,9,.slice (some ⟨lb,0,none⟩) m cW,m,vY ws,1⟩] ++ tl),r.base=P∧r.e≠106:=by
  intro r hr
  rcases List.mem_append.1 hr with hr|hr
  ·simp only [List.mem_cons,List.not_mem_nil,or_false] at hr
   rcases hr with rfl|rfl|rfl|rfl|rfl|rfl <;> simp
  ·exact htl r hr
 have hfo:∀ k,rS ([⟨P,22,.slice sE m cE,m,hsE,1⟩,⟨P,3,.slice sP m cP,m,ints pre,1⟩,⟨P,3,.slice sL m cL,m,ints las,1⟩,⟨P,22,.slice sR d cR,d,hsR,1⟩,⟨P,140,.slice sU u cU,u,us,2⟩,⟨P,9,.slice (some ⟨lb,0,none⟩) m cW,m,vY ws,1⟩] ++ tl) k→w0.heap.size≤k∧k≠o∧k≠P+1∧k≠mb∧¬ X k:=by
  intro k hk
  obtain ⟨r,hr,hk⟩:=hk
  have hown:=hM9.own r hr
  have hr2:=hty r hr
  refine ⟨?_,fun e=>?_,fun e=>?_,fun e=>?_,hM9.offX r hr k hk⟩
  ·have:=(hown.lt k hk).1
   rw [hr2.1] at this;omega
  ·subst e;exact zS hown hB9 hr2.2 hk
  ·subst e;exact zS hown hBP9 hr2.2 hk
  ·subst e;exact hMap9.ne_own hown hk
 have hEM:=hM9.after hMM (fun k hk=>(hfo k hk).2.2.2.2)
 have kM:=hM9.keepMany hMM (fun k hk=>(hfo k hk).2.2.2.2)
 have hBM:=hMM.but.heap hB9 (fun hj=>(hfo o hj).2.1 rfl)
 have hBPM:=hMM.but.heap hBP9 (fun hj=>(hfo _ hj).2.2.1 rfl)
 have hMapM:=hMap9.same (hMM.but.block mb hMap9.lt (fun hj=>(hfo _ hj).2.2.2.1 rfl))
 have hgM:=hMM.but.grown (zG hg hg9 (by simp)) (fun k hk=>.inr (hfo k hk).1)
 have hsS:=heap_setCell_same wM o 7 _ _ (.slice sU' (u+1) cU') hBM
 have hgS:=zH wM ⟨o,7,none⟩ (.slice sU' (u+1) cU')
 have kS:wY X wM _:=wY.of_grown hEM.lt hgS (fun j e hx=>by have e:o=j:=Oj e;subst e;exact hX.1 hx)
 refine ⟨(zX hBM).2.2.2.2.2.2.2.1,zD hBM 7,fun i V hi hc=>?_,?_⟩
 ·have h1:w.ownsRow P 9 1 (.slice (some ⟨lb,0,none⟩) m cW) m (vY ws):=hM.own ⟨P,9,.slice (some ⟨lb,0,none⟩) m cW,m,vY ws,1⟩ (by simp)
  have h2:wM.ownsRow P 9 1 (.slice (some ⟨lb,0,none⟩) m cW) m (vY ws):=hMM.own 5 ⟨P,9,.slice (some ⟨lb,0,none⟩) m cW,m,vY ws,1⟩ rfl
  exact cell_owned h1 h2 hi hc
 ·refine .mk X (u+1) (us ++ us2) hsE hsR ws sE cE sP cP sL cL sR cR sU' cU' hl hpl hll hrl hit (by omega) hwl hwz (hEM.far hgS (fun r hr=>zS (hEM.own r hr) hBM ?_)) ((hE.kept k9 hg9.size).kept kM hMM.but.size |>.kept kS hgS.size) ((hR.kept k9 hg9.size).kept kM hMM.but.size |>.kept kS hgS.size) ((hG.kept k9 hg9.size).kept kM hMM.but.size |>.kept kS hgS.size) hX (hMapM.kept hgS (fun e=>hMapM.ne_cells hBM (Oj e))) (by simpa using hsS) (zE hBPM hgS (by simp;omega)) (zG hgM hgS (fun j e=>by have e:o=j:=Oj e;omega))
  simp only [List.cons_append,List.nil_append,List.set_cons_zero,List.set_cons_succ,List.mem_cons] at hr
  rcases hr with rfl|rfl|rfl|rfl|rfl|rfl|hr
  ·simp
  ·simp
  ·simp
  ·simp
  ·simp
  ·simp
  ·exact (htl r hr).2
end
end Go.Proofs.YtdjhoadoiknaoaaDoor
