/- Part 29 of the proof: EProc24. -/
import Derived.Test.YtdjhoadoiknaoaaDoorZC28
set_option linter.unusedVariables false
set_option linter.unusedSimpArgs false
namespace Go.Proofs.YtdjhoadoiknaoaaDoor
open Go.RowKit
theorem rO {P:Nat} {vE vP vL:Value} {nE nP nL:Nat} {xE xP xL:List Value} {rest:List RowS} (h:∀ r∈rest,r.e≠106):∀ s∈(⟨P,22,vE,nE,xE,1⟩ :: ⟨P,3,vP,nP,xP,1⟩ :: ⟨P,3,vL,nL,xL,1⟩ :: rest:List RowS),s.e≠106:=by
 intro s hs
 simp only [List.mem_cons] at hs
 rcases hs with rfl|rfl|rfl|hs
 ·simp
 ·simp
 ·simp
 ·exact h s hs
inductive proc24I (n P o m u d x gf:Nat) (pre las:List Int) (hsE:List Value) (rest:List RowS) (sE:Option Addr) (cE:Nat) (sP:Option Addr) (cP:Nat) (sL:Option Addr) (cL:Nat) (sR:Option Addr) (cR:Nat) (sU:Option Addr) (cU:Nat) (gA:Option Addr) (gN gC:Nat) (w4:World) (FF:Nat→Prop) (a0:Act) (l:Array Bool) (a:Act) (w:World):Prop
 | mk (x123:Value) (x124:Value) (x129:Value) (x130:Value) (x134:Value) (x135:Value) (x136:Value) (x137:Value) (x138:Value) (vE:Value) (nE:Nat) (xE:List Value) (vP:Value) (nP:Nat) (xP:List Value) (vL:Value) (nL:Nat) (xL:List Value) (ls:List (Nat × Obj)) (c3:Value) (c4:Value) (c5:Value) (ha:a=zL a0 [(123,x123),(124,x124),(129,x129),(130,x130),(134,x134),(135,x135),(136,x136),(137,x137),(138,x138)]) (HR:∀ j∈[0,1,2,5,6,7,8,11,12,13],l.getD j true=true) (H3:Hid (l.getD 3 true=true→∃ g,x123=.slice (some ⟨g,0,none⟩) 1 1∧(g,Obj.cells #[Value.slice (some ⟨gf,0,none⟩) n n] 22 (0,0))∈ls)) (H4n:Hid (l.getD 4 true=false→vE=.slice sE m cE∧m=nE∧hsE=xE)) (H4:Hid (l.getD 4 true=true→∃ sa sc,vE=.slice sa (m+1) sc∧x124=.slice sa (m+1) sc∧nE=m+1∧xE=hsE ++ [Value.slice (some ⟨gf,0,none⟩) n n])) (H9:Hid (l.getD 9 true=true→∃ g,x129=.slice (some ⟨g,0,none⟩) 1 1∧(g,Obj.cells #[Value.int .i64 (d:Int)] 3 (0,0))∈ls)) (H10n:Hid (l.getD 10 true=false→vP=.slice sP m cP∧m=nP∧xP=ints pre)) (H10:Hid (l.getD 10 true=true→l.getD 4 true=true∧∃ sa sc,vP=.slice sa (m+1) sc∧x130=.slice sa (m+1) sc∧nP=m+1∧xP=ints pre ++ [Value.int .i64 (d:Int)])) (H14:Hid (l.getD 14 true=true→∃ g,x134=.slice (some ⟨g,0,none⟩) 1 1∧(g,Obj.cells #[Value.int .i64 (x:Int)] 3 (0,0))∈ls)) (H15n:Hid (l.getD 15 true=false→vL=.slice sL m cL∧m=nL∧xL=ints las)) (H15:Hid (l.getD 15 true=true→l.getD 10 true=true∧∃ sa sc,vL=.slice sa (m+1) sc∧x135=.slice sa (m+1) sc∧nL=m+1∧xL=ints las ++ [Value.int .i64 (x:Int)])) (H16:Hid (l.getD 16 true=true→x136=.pointer (some ⟨o,3,none⟩))) (H18:Hid (l.getD 18 true=true→x137=.pointer (some ⟨o,4,none⟩))) (H20:Hid (l.getD 20 true=true→x138=.pointer (some ⟨o,5,none⟩))) (B3n:Hid (l.getD 17 true=false→c3=.slice sE m cE)) (B3:Hid (l.getD 17 true=true→l.getD 4 true=true∧l.getD 15 true=true∧c3=vE)) (B4n:Hid (l.getD 19 true=false→c4=.slice sP m cP)) (B4:Hid (l.getD 19 true=true→l.getD 10 true=true∧l.getD 17 true=true∧c4=vP)) (B5n:Hid (l.getD 21 true=false→c5=.slice sL m cL)) (B5:Hid (l.getD 21 true=true→l.getD 15 true=true∧l.getD 19 true=true∧c5=vL)) (HB:(w.heap[o]?=some (.cells #[.int .i64 n,.bool true,.slice gA gN gC,c3,c4,c5,.slice sR d cR,.slice sU u cU,.int .i64 d] 106 (0,0)))) (HM:(Many w4 FF w (⟨P,22,vE,nE,xE,1⟩ :: ⟨P,3,vP,nP,xP,1⟩ :: ⟨P,3,vL,nL,xL,1⟩ :: rest) ls []))
theorem proc24_G {n P o m u d x gf:Nat} {pre las:List Int} {hsE:List Value} {rest:List RowS} {sE:Option Addr} {cE:Nat} {sP:Option Addr} {cP:Nat} {sL:Option Addr} {cL:Nat} {sR:Option Addr} {cR:Nat} {sU:Option Addr} {cU:Nat} {gA:Option Addr} {gN gC:Nat} {w4:World} {FF:Nat→Prop} {a0:Act} {l:Array Bool} {a:Act} {w:World} (h:proc24I n P o m u d x gf pre las hsE rest sE cE sP cP sL cL sR cR sU cU gA gN gC w4 FF a0 l a w):Until 17 (fun _=>True) (fun W=>W.cell? ⟨o,3,none⟩=some (.slice sE m cE)∧W.cell? ⟨o,4,none⟩=some (.slice sP m cP)∧W.cell? ⟨o,5,none⟩=some (.slice sL m cL)∧W.cell? ⟨o,8,none⟩=some (.int .i64 d)) l w:=by
 obtain ⟨x123,x124,x129,x130,x134,x135,x136,x137,x138,vE,nE,xE,vP,nP,xP,vL,nL,xL,ls,c3,c4,c5,ha,HR,H3,H4n,H4,H9,H10n,H10,H14,H15n,H15,H16,H18,H20,B3n,B3,B4n,B4,B5n,B5,HB,HM⟩:=h
 obtain ⟨k0,k1,k2,k3,k4,k5,k6,k7,k8⟩:=zW HB
 refine ⟨trivial,fun h18=>?_⟩
 have h20:l.getD 19 true=false:=by
  rcases h20:l.getD 19 true with _|_
  ·rfl
  ·have:=(B4.out h20).2.1
   rw [h18] at this;cases this
 have h22:l.getD 21 true=false:=by
  rcases h22:l.getD 21 true with _|_
  ·rfl
  ·have:=(B5.out h22).2.1
   rw [h20] at this;cases this
 rw [B3n.out h18] at k3;rw [B4n.out h20] at k4;rw [B5n.out h22] at k5
 exact ⟨k3,k4,k5,k8⟩
theorem sH {n P o m u d x gf:Nat} {pre las:List Int} {hsE:List Value} {rest:List RowS} {sE:Option Addr} {cE:Nat} {sP:Option Addr} {cP:Nat} {sL:Option Addr} {cL:Nat} {sR:Option Addr} {cR:Nat} {sU:Option Addr} {cU:Nat} {gA:Option Addr} {gN gC:Nat} {w4:World} {FF:Nat→Prop} {a0:Act} {l:Array Bool} {a:Act} {w:World} (h:proc24I n P o m u d x gf pre las hsE rest sE cE sP cP sL cL sR cR sU cU gA gN gC w4 FF a0 l a w):∀ j∈[0,1,2,5,6,7,8,11,12,13],l.getD j true=true:=by
 obtain ⟨x123,x124,x129,x130,x134,x135,x136,x137,x138,vE,nE,xE,vP,nP,xP,vL,nL,xL,ls,c3,c4,c5,ha,HR,H3,H4n,H4,H9,H10n,H10,H14,H15n,H15,H16,H18,H20,B3n,B3,B4n,B4,B5n,B5,HB,HM⟩:=h
 exact HR
set_option maxRecDepth 100000 in
set_option maxHeartbeats 8000000 in
theorem proc24_steps {n P o m u d x gf:Nat} {pre las:List Int} {hsE:List Value} {rest:List RowS} {sE:Option Addr} {cE:Nat} {sP:Option Addr} {cP:Nat} {sL:Option Addr} {cL:Nat} {sR:Option Addr} {cR:Nat} {sU:Option Addr} {cU:Nat} {gA:Option Addr} {gN gC:Nat} {w4:World} {FF:Nat→Prop} {v0 v1 v2 v3 v4 v5 v7 v8 v9 v10 v11 v12 v13 v14 v15 v16 v17 v18 v19 v20 v21 v22 v23 v24 v25 v26 v27 v28 v29 v30 v31 v32 v33 v34 v35 v36 v37 v38 v39 v40 v41 v42 v43 v44 v45 v46 v47 v48 v49 v50 v51 v52 v53 v54 v55 v56 v57 v58 v59 v60 v61 v62 v63 v64 v65 v66 v67 v68 v69 v70 v71 v72 v73 v74 v75 v76 v77 v78 v79 v80 v81 v82 v83 v84 v85 v86 v87 v88 v89 v90 v91 v92 v93 v94 v95 v96 v97 v98 v99 v100 v101 v102 v103 v104 v105 v106 v107 v108 v109 v110 v111 v112 v113 v114 v115 v116 v117 v118 v119 v123 v124 v129 v130 v134 v135 v136 v137 v138 v139 v140 v141 v142 v143 v144 v145 v146 v147 v148 v149 v150 v151 v152 v153 v154 v155 v156 v157 v158 v159 v160 v161 v162 v163 v164 v165 v166 v167 v168 v169 v170 v171 v172 v173 v174 v175 v176 v177 v178 v179 v180 v181 v182 v183 v184 v185 v186 v187 v188 v189 v190:Value} {dd:_} {a0:Act} (ha0:a0=⟨#[v0,v1,v2,v3,v4,v5,.pointer (some ⟨o,0,none⟩),v7,v8,v9,v10,v11,v12,v13,v14,v15,v16,v17,v18,v19,v20,v21,v22,v23,v24,v25,v26,v27,v28,v29,v30,v31,v32,v33,v34,v35,v36,v37,v38,v39,v40,v41,v42,v43,v44,v45,v46,v47,v48,v49,v50,v51,v52,v53,v54,v55,v56,v57,v58,v59,v60,v61,v62,v63,v64,v65,v66,v67,v68,v69,v70,v71,v72,v73,v74,v75,v76,v77,v78,v79,v80,v81,v82,v83,v84,v85,v86,v87,v88,v89,v90,v91,v92,v93,v94,v95,v96,v97,v98,v99,v100,v101,v102,v103,v104,v105,v106,v107,v108,v109,v110,v111,v112,v113,v114,v115,v116,v117,v118,v119,.pointer (some ⟨o,3,none⟩),.slice sE m cE,Value.slice (some ⟨gf,0,none⟩) n n,v123,v124,.pointer (some ⟨o,4,none⟩),.slice sP m cP,.pointer (some ⟨o,8,none⟩),.int .i64 d,v129,v130,.pointer (some ⟨o,5,none⟩),.slice sL m cL,.int .i64 x,v134,v135,v136,v137,v138,v139,v140,v141,v142,v143,v144,v145,v146,v147,v148,v149,v150,v151,v152,v153,v154,v155,v156,v157,v158,v159,v160,v161,v162,v163,v164,v165,v166,v167,v168,v169,v170,v171,v172,v173,v174,v175,v176,v177,v178,v179,v180,v181,v182,v183,v184,v185,v186,v187,v188,v189,v190],dd⟩) (hm7:m≤2000) (hbase:P≤w4.heap.size) (hFo:FF o) (hoW:o < w4.heap.size) (hrest:∀ r∈rest,r.e≠106) (ops7:Array Oper) (Q7:Exit→Act→World→Prop):pJ (lH Tryd.prog .any ops7 Q7 (proc24I n P o m u d x gf pre las hsE rest sE cE sP cP sL cL sR cR sU cU gA gN gC w4 FF a0)) 0 (rZ Tryd.f105 24).toList:=by
 refine ⟨?s0,?s1,?s2,?s3,?s4,?s5,?s6,?s7,?s8,?s9,?s10,?s11,?s12,?s13,?s14,?s15,?s16,?s17,?s18,?s19,?s20,?s21,trivial⟩
 case s0 =>
  exact fun l a w h hun=>absurd (sH h 0 (by simp)) (by rw [hun];simp)
 case s1 =>
  exact fun l a w h hun=>absurd (sH h 1 (by simp)) (by rw [hun];simp)
 case s2 =>
  exact fun l a w h hun=>absurd (sH h 2 (by simp)) (by rw [hun];simp)
 case s3 =>
  intro l a w h hun hdep K hK
  obtain ⟨x123,x124,x129,x130,x134,x135,x136,x137,x138,vE,nE,xE,vP,nP,xP,vL,nL,xL,ls,c3,c4,c5,ha,HR,H3,H4n,H4,H9,H10n,H10,H14,H15n,H15,H16,H18,H20,B3n,B3,B4n,B4,B5n,B5,HB,HM⟩:=h
  subst ha
  rw [ha0]
  simp only [zL,List.foldl_cons,List.foldl_nil,Act.put,sPa,sPb,sPc]
  go_simp
  refine hK.out _ _ ?_
  refine ⟨(.slice (some ⟨w.heap.size,0,none⟩) 1 1),x124,x129,x130,x134,x135,x136,x137,x138,vE,nE,xE,vP,nP,xP,vL,nL,xL,((w.heap.size,Obj.cells #[Value.slice (some ⟨gf,0,none⟩) n n] 22 (0,0)) :: ls),c3,c4,c5,?fa3,fun j hj=>zB (HR j hj),Kh (fun _=>⟨w.heap.size,rfl,List.Mem.head _⟩),Kh (fun h=>H4n.out (zC h)),Kh (fun h=>H4.out (zA (by decide) h)),Kh (fun h=>let ⟨g,h1,h2⟩:=H9.out (zA (by decide) h);⟨g,h1,List.Mem.tail _ h2⟩),Kh (fun h=>H10n.out (zC h)),Kh (fun h=>⟨zB (H10.out (zA (by decide) h)).1,(H10.out (zA (by decide) h)).2⟩),Kh (fun h=>let ⟨g,h1,h2⟩:=H14.out (zA (by decide) h);⟨g,h1,List.Mem.tail _ h2⟩),Kh (fun h=>H15n.out (zC h)),Kh (fun h=>⟨zB (H15.out (zA (by decide) h)).1,(H15.out (zA (by decide) h)).2⟩),Kh (fun h=>H16.out (zA (by decide) h)),Kh (fun h=>H18.out (zA (by decide) h)),Kh (fun h=>H20.out (zA (by decide) h)),Kh (fun h=>B3n.out (zC h)),Kh (fun h=>⟨zB (B3.out (zA (by decide) h)).1,zB (B3.out (zA (by decide) h)).2.1,(B3.out (zA (by decide) h)).2.2⟩),Kh (fun h=>B4n.out (zC h)),Kh (fun h=>⟨zB (B4.out (zA (by decide) h)).1,zB (B4.out (zA (by decide) h)).2.1,(B4.out (zA (by decide) h)).2.2⟩),Kh (fun h=>B5n.out (zC h)),Kh (fun h=>⟨zB (B5.out (zA (by decide) h)).1,zB (B5.out (zA (by decide) h)).2.1,(B5.out (zA (by decide) h)).2.2⟩),zE HB (Ga w (.cells #[Value.slice (some ⟨gf,0,none⟩) n n] 22) none) (by simp),HM.alloc (.cells #[Value.slice (some ⟨gf,0,none⟩) n n] 22)⟩
  case fa3=>rw [ha0];simp only [zL,List.foldl_cons,List.foldl_nil,Act.put,sPa,sPb,sPc]
 case s4 =>
  intro l a w h hun hdep K hK
  obtain ⟨x123,x124,x129,x130,x134,x135,x136,x137,x138,vE,nE,xE,vP,nP,xP,vL,nL,xL,ls,c3,c4,c5,ha,HR,H3,H4n,H4,H9,H10n,H10,H14,H15n,H15,H16,H18,H20,B3n,B3,B4n,B4,B5n,B5,HB,HM⟩:=h
  have DH3:=H3.out (zK (hdep ⟨3,.data⟩ (by simp) rfl))
  obtain ⟨g5,rfl,hg5⟩:=DH3
  obtain ⟨rfl,rfl,rfl⟩:=H4n.out hun
  subst ha
  rw [ha0]
  simp only [zL,List.foldl_cons,List.foldl_nil,Act.put,sPa,sPb,sPc]
  refine vZ (by simp [Region.wanted]) (.tmp 121) (.tmp 123) 26 rfl wT 0 g5 1 rfl HM rfl rfl rfl rfl ?g14 ?g24 ?g34 hg5 rfl ?_
  case g14=>show m+1≤maxLen;unfold maxLen;omega
  case g24=>show (m+1) * 24≤140737488355328;omega
  case g34=>exact hbase
  intro sa sc w6 hM6 hg6
  refine hK.out _ _ ?_
  refine ⟨(.slice (some ⟨g5,0,none⟩) 1 1),(.slice sa (m+1) sc),x129,x130,x134,x135,x136,x137,x138,(.slice sa (m+1) sc),(m+1),(hsE ++ [Value.slice (some ⟨gf,0,none⟩) n n]),vP,nP,xP,vL,nL,xL,ls,c3,c4,c5,?fa4,fun j hj=>zB (HR j hj),Kh (fun _=>⟨g5,rfl,hg5⟩),Kh (fun h=>zY h),Kh (fun _=>⟨sa,sc,rfl,rfl,rfl,rfl⟩),Kh (fun h=>H9.out (zA (by decide) h)),Kh (fun h=>H10n.out (zC h)),Kh (fun h=>absurd (H10.out (zA (by decide) h)).1 (by rw [hun];simp)),Kh (fun h=>H14.out (zA (by decide) h)),Kh (fun h=>H15n.out (zC h)),Kh (fun h=>⟨zB (H15.out (zA (by decide) h)).1,(H15.out (zA (by decide) h)).2⟩),Kh (fun h=>H16.out (zA (by decide) h)),Kh (fun h=>H18.out (zA (by decide) h)),Kh (fun h=>H20.out (zA (by decide) h)),Kh (fun h=>B3n.out (zC h)),Kh (fun h=>absurd (B3.out (zA (by decide) h)).1 (by rw [hun];simp)),Kh (fun h=>B4n.out (zC h)),Kh (fun h=>⟨zB (B4.out (zA (by decide) h)).1,zB (B4.out (zA (by decide) h)).2.1,(B4.out (zA (by decide) h)).2.2⟩),Kh (fun h=>B5n.out (zC h)),Kh (fun h=>⟨zB (B5.out (zA (by decide) h)).1,zB (B5.out (zA (by decide) h)).2.1,(B5.out (zA (by decide) h)).2.2⟩),zE HB hg6 (fun e=>HM.not_type HB (rO hrest) 0 _ rfl e),hM6⟩
  case fa4=>rw [ha0];simp only [zL,List.foldl_cons,List.foldl_nil,Act.put,sPa,sPb,sPc]
 case s5 =>
  exact fun l a w h hun=>absurd (sH h 5 (by simp)) (by rw [hun];simp)
 case s6 =>
  exact fun l a w h hun=>absurd (sH h 6 (by simp)) (by rw [hun];simp)
 case s7 =>
  exact fun l a w h hun=>absurd (sH h 7 (by simp)) (by rw [hun];simp)
 case s8 =>
  exact fun l a w h hun=>absurd (sH h 8 (by simp)) (by rw [hun];simp)
 case s9 =>
  intro l a w h hun hdep K hK
  obtain ⟨x123,x124,x129,x130,x134,x135,x136,x137,x138,vE,nE,xE,vP,nP,xP,vL,nL,xL,ls,c3,c4,c5,ha,HR,H3,H4n,H4,H9,H10n,H10,H14,H15n,H15,H16,H18,H20,B3n,B3,B4n,B4,B5n,B5,HB,HM⟩:=h
  subst ha
  rw [ha0]
  simp only [zL,List.foldl_cons,List.foldl_nil,Act.put,sPa,sPb,sPc]
  go_simp
  refine hK.out _ _ ?_
  refine ⟨x123,x124,(.slice (some ⟨w.heap.size,0,none⟩) 1 1),x130,x134,x135,x136,x137,x138,vE,nE,xE,vP,nP,xP,vL,nL,xL,((w.heap.size,Obj.cells #[Value.int .i64 (d:Int)] 3 (0,0)) :: ls),c3,c4,c5,?fa9,fun j hj=>zB (HR j hj),Kh (fun h=>let ⟨g,h1,h2⟩:=H3.out (zA (by decide) h);⟨g,h1,List.Mem.tail _ h2⟩),Kh (fun h=>H4n.out (zC h)),Kh (fun h=>H4.out (zA (by decide) h)),Kh (fun _=>⟨w.heap.size,rfl,List.Mem.head _⟩),Kh (fun h=>H10n.out (zC h)),Kh (fun h=>⟨zB (H10.out (zA (by decide) h)).1,(H10.out (zA (by decide) h)).2⟩),Kh (fun h=>let ⟨g,h1,h2⟩:=H14.out (zA (by decide) h);⟨g,h1,List.Mem.tail _ h2⟩),Kh (fun h=>H15n.out (zC h)),Kh (fun h=>⟨zB (H15.out (zA (by decide) h)).1,(H15.out (zA (by decide) h)).2⟩),Kh (fun h=>H16.out (zA (by decide) h)),Kh (fun h=>H18.out (zA (by decide) h)),Kh (fun h=>H20.out (zA (by decide) h)),Kh (fun h=>B3n.out (zC h)),Kh (fun h=>⟨zB (B3.out (zA (by decide) h)).1,zB (B3.out (zA (by decide) h)).2.1,(B3.out (zA (by decide) h)).2.2⟩),Kh (fun h=>B4n.out (zC h)),Kh (fun h=>⟨zB (B4.out (zA (by decide) h)).1,zB (B4.out (zA (by decide) h)).2.1,(B4.out (zA (by decide) h)).2.2⟩),Kh (fun h=>B5n.out (zC h)),Kh (fun h=>⟨zB (B5.out (zA (by decide) h)).1,zB (B5.out (zA (by decide) h)).2.1,(B5.out (zA (by decide) h)).2.2⟩),zE HB (Ga w (.cells #[Value.int .i64 (d:Int)] 3) none) (by simp),HM.alloc (.cells #[Value.int .i64 (d:Int)] 3)⟩
  case fa9=>rw [ha0];simp only [zL,List.foldl_cons,List.foldl_nil,Act.put,sPa,sPb,sPc]
 case s10 =>
  intro l a w h hun hdep K hK
  obtain ⟨x123,x124,x129,x130,x134,x135,x136,x137,x138,vE,nE,xE,vP,nP,xP,vL,nL,xL,ls,c3,c4,c5,ha,HR,H3,H4n,H4,H9,H10n,H10,H14,H15n,H15,H16,H18,H20,B3n,B3,B4n,B4,B5n,B5,HB,HM⟩:=h
  have DH9:=H9.out (zK (hdep ⟨9,.data⟩ (by simp) rfl))
  obtain ⟨g5,rfl,hg5⟩:=DH9
  obtain ⟨rfl,rfl,rfl⟩:=H10n.out hun
  have hdc:=zK (hdep ⟨4,.chain⟩ (by simp) rfl)
  subst ha
  rw [ha0]
  simp only [zL,List.foldl_cons,List.foldl_nil,Act.put,sPa,sPb,sPc]
  refine vZ (by simp [Region.wanted]) (.tmp 126) (.tmp 129) 22 rfl yG 1 g5 1 rfl HM rfl rfl rfl rfl ?g110 ?g210 ?g310 hg5 rfl ?_
  case g110=>show m+1≤maxLen;unfold maxLen;omega
  case g210=>show (m+1) * 8≤140737488355328;omega
  case g310=>exact hbase
  intro sa sc w6 hM6 hg6
  refine hK.out _ _ ?_
  refine ⟨x123,x124,(.slice (some ⟨g5,0,none⟩) 1 1),(.slice sa (m+1) sc),x134,x135,x136,x137,x138,vE,nE,xE,(.slice sa (m+1) sc),(m+1),((ints pre) ++ [Value.int .i64 (d:Int)]),vL,nL,xL,ls,c3,c4,c5,?fa10,fun j hj=>zB (HR j hj),Kh (fun h=>H3.out (zA (by decide) h)),Kh (fun h=>H4n.out (zC h)),Kh (fun h=>H4.out (zA (by decide) h)),Kh (fun _=>⟨g5,rfl,hg5⟩),Kh (fun h=>zY h),Kh (fun _=>⟨zB hdc,sa,sc,rfl,rfl,rfl,rfl⟩),Kh (fun h=>H14.out (zA (by decide) h)),Kh (fun h=>H15n.out (zC h)),Kh (fun h=>absurd (H15.out (zA (by decide) h)).1 (by rw [hun];simp)),Kh (fun h=>H16.out (zA (by decide) h)),Kh (fun h=>H18.out (zA (by decide) h)),Kh (fun h=>H20.out (zA (by decide) h)),Kh (fun h=>B3n.out (zC h)),Kh (fun h=>⟨zB (B3.out (zA (by decide) h)).1,zB (B3.out (zA (by decide) h)).2.1,(B3.out (zA (by decide) h)).2.2⟩),Kh (fun h=>B4n.out (zC h)),Kh (fun h=>absurd (B4.out (zA (by decide) h)).1 (by rw [hun];simp)),Kh (fun h=>B5n.out (zC h)),Kh (fun h=>⟨zB (B5.out (zA (by decide) h)).1,zB (B5.out (zA (by decide) h)).2.1,(B5.out (zA (by decide) h)).2.2⟩),zE HB hg6 (fun e=>HM.not_type HB (rO hrest) 1 _ rfl e),hM6⟩
  case fa10=>rw [ha0];simp only [zL,List.foldl_cons,List.foldl_nil,Act.put,sPa,sPb,sPc]
 case s11 =>
  exact fun l a w h hun=>absurd (sH h 11 (by simp)) (by rw [hun];simp)
 case s12 =>
  exact fun l a w h hun=>absurd (sH h 12 (by simp)) (by rw [hun];simp)
 case s13 =>
  exact fun l a w h hun=>absurd (sH h 13 (by simp)) (by rw [hun];simp)
 case s14 =>
  intro l a w h hun hdep K hK
  obtain ⟨x123,x124,x129,x130,x134,x135,x136,x137,x138,vE,nE,xE,vP,nP,xP,vL,nL,xL,ls,c3,c4,c5,ha,HR,H3,H4n,H4,H9,H10n,H10,H14,H15n,H15,H16,H18,H20,B3n,B3,B4n,B4,B5n,B5,HB,HM⟩:=h
  subst ha
  rw [ha0]
  simp only [zL,List.foldl_cons,List.foldl_nil,Act.put,sPa,sPb,sPc]
  go_simp
  refine hK.out _ _ ?_
  refine ⟨x123,x124,x129,x130,(.slice (some ⟨w.heap.size,0,none⟩) 1 1),x135,x136,x137,x138,vE,nE,xE,vP,nP,xP,vL,nL,xL,((w.heap.size,Obj.cells #[Value.int .i64 (x:Int)] 3 (0,0)) :: ls),c3,c4,c5,?fa14,fun j hj=>zB (HR j hj),Kh (fun h=>let ⟨g,h1,h2⟩:=H3.out (zA (by decide) h);⟨g,h1,List.Mem.tail _ h2⟩),Kh (fun h=>H4n.out (zC h)),Kh (fun h=>H4.out (zA (by decide) h)),Kh (fun h=>let ⟨g,h1,h2⟩:=H9.out (zA (by decide) h);⟨g,h1,List.Mem.tail _ h2⟩),Kh (fun h=>H10n.out (zC h)),Kh (fun h=>⟨zB (H10.out (zA (by decide) h)).1,(H10.out (zA (by decide) h)).2⟩),Kh (fun _=>⟨w.heap.size,rfl,List.Mem.head _⟩),Kh (fun h=>H15n.out (zC h)),Kh (fun h=>⟨zB (H15.out (zA (by decide) h)).1,(H15.out (zA (by decide) h)).2⟩),Kh (fun h=>H16.out (zA (by decide) h)),Kh (fun h=>H18.out (zA (by decide) h)),Kh (fun h=>H20.out (zA (by decide) h)),Kh (fun h=>B3n.out (zC h)),Kh (fun h=>⟨zB (B3.out (zA (by decide) h)).1,zB (B3.out (zA (by decide) h)).2.1,(B3.out (zA (by decide) h)).2.2⟩),Kh (fun h=>B4n.out (zC h)),Kh (fun h=>⟨zB (B4.out (zA (by decide) h)).1,zB (B4.out (zA (by decide) h)).2.1,(B4.out (zA (by decide) h)).2.2⟩),Kh (fun h=>B5n.out (zC h)),Kh (fun h=>⟨zB (B5.out (zA (by decide) h)).1,zB (B5.out (zA (by decide) h)).2.1,(B5.out (zA (by decide) h)).2.2⟩),zE HB (Ga w (.cells #[Value.int .i64 (x:Int)] 3) none) (by simp),HM.alloc (.cells #[Value.int .i64 (x:Int)] 3)⟩
  case fa14=>rw [ha0];simp only [zL,List.foldl_cons,List.foldl_nil,Act.put,sPa,sPb,sPc]
 case s15 =>
  intro l a w h hun hdep K hK
  obtain ⟨x123,x124,x129,x130,x134,x135,x136,x137,x138,vE,nE,xE,vP,nP,xP,vL,nL,xL,ls,c3,c4,c5,ha,HR,H3,H4n,H4,H9,H10n,H10,H14,H15n,H15,H16,H18,H20,B3n,B3,B4n,B4,B5n,B5,HB,HM⟩:=h
  have DH14:=H14.out (zK (hdep ⟨14,.data⟩ (by simp) rfl))
  obtain ⟨g5,rfl,hg5⟩:=DH14
  obtain ⟨rfl,rfl,rfl⟩:=H15n.out hun
  have hdc:=zK (hdep ⟨10,.chain⟩ (by simp) rfl)
  subst ha
  rw [ha0]
  simp only [zL,List.foldl_cons,List.foldl_nil,Act.put,sPa,sPb,sPc]
  refine vZ (by simp [Region.wanted]) (.tmp 132) (.tmp 134) 22 rfl yG 2 g5 1 rfl HM rfl rfl rfl rfl ?g115 ?g215 ?g315 hg5 rfl ?_
  case g115=>show m+1≤maxLen;unfold maxLen;omega
  case g215=>show (m+1) * 8≤140737488355328;omega
  case g315=>exact hbase
  intro sa sc w6 hM6 hg6
  refine hK.out _ _ ?_
  refine ⟨x123,x124,x129,x130,(.slice (some ⟨g5,0,none⟩) 1 1),(.slice sa (m+1) sc),x136,x137,x138,vE,nE,xE,vP,nP,xP,(.slice sa (m+1) sc),(m+1),((ints las) ++ [Value.int .i64 (x:Int)]),ls,c3,c4,c5,?fa15,fun j hj=>zB (HR j hj),Kh (fun h=>H3.out (zA (by decide) h)),Kh (fun h=>H4n.out (zC h)),Kh (fun h=>H4.out (zA (by decide) h)),Kh (fun h=>H9.out (zA (by decide) h)),Kh (fun h=>H10n.out (zC h)),Kh (fun h=>⟨zB (H10.out (zA (by decide) h)).1,(H10.out (zA (by decide) h)).2⟩),Kh (fun _=>⟨g5,rfl,hg5⟩),Kh (fun h=>zY h),Kh (fun _=>⟨zB hdc,sa,sc,rfl,rfl,rfl,rfl⟩),Kh (fun h=>H16.out (zA (by decide) h)),Kh (fun h=>H18.out (zA (by decide) h)),Kh (fun h=>H20.out (zA (by decide) h)),Kh (fun h=>B3n.out (zC h)),Kh (fun h=>absurd (B3.out (zA (by decide) h)).2.1 (by rw [hun];simp)),Kh (fun h=>B4n.out (zC h)),Kh (fun h=>⟨zB (B4.out (zA (by decide) h)).1,zB (B4.out (zA (by decide) h)).2.1,(B4.out (zA (by decide) h)).2.2⟩),Kh (fun h=>B5n.out (zC h)),Kh (fun h=>absurd (B5.out (zA (by decide) h)).1 (by rw [hun];simp)),zE HB hg6 (fun e=>HM.not_type HB (rO hrest) 2 _ rfl e),hM6⟩
  case fa15=>rw [ha0];simp only [zL,List.foldl_cons,List.foldl_nil,Act.put,sPa,sPb,sPc]
 case s16 =>
  intro l a w h hun hdep K hK
  obtain ⟨x123,x124,x129,x130,x134,x135,x136,x137,x138,vE,nE,xE,vP,nP,xP,vL,nL,xL,ls,c3,c4,c5,ha,HR,H3,H4n,H4,H9,H10n,H10,H14,H15n,H15,H16,H18,H20,B3n,B3,B4n,B4,B5n,B5,HB,HM⟩:=h
  subst ha
  rw [ha0]
  simp only [zL,List.foldl_cons,List.foldl_nil,Act.put,sPa,sPb,sPc]
  go_simp
  refine hK.out _ _ ?_
  refine ⟨x123,x124,x129,x130,x134,x135,(.pointer (some ⟨o,3,none⟩)),x137,x138,vE,nE,xE,vP,nP,xP,vL,nL,xL,ls,c3,c4,c5,?fa16,fun j hj=>zB (HR j hj),Kh (fun h=>H3.out (zA (by decide) h)),Kh (fun h=>H4n.out (zC h)),Kh (fun h=>H4.out (zA (by decide) h)),Kh (fun h=>H9.out (zA (by decide) h)),Kh (fun h=>H10n.out (zC h)),Kh (fun h=>⟨zB (H10.out (zA (by decide) h)).1,(H10.out (zA (by decide) h)).2⟩),Kh (fun h=>H14.out (zA (by decide) h)),Kh (fun h=>H15n.out (zC h)),Kh (fun h=>⟨zB (H15.out (zA (by decide) h)).1,(H15.out (zA (by decide) h)).2⟩),Kh (fun _=>rfl),Kh (fun h=>H18.out (zA (by decide) h)),Kh (fun h=>H20.out (zA (by decide) h)),Kh (fun h=>B3n.out (zC h)),Kh (fun h=>⟨zB (B3.out (zA (by decide) h)).1,zB (B3.out (zA (by decide) h)).2.1,(B3.out (zA (by decide) h)).2.2⟩),Kh (fun h=>B4n.out (zC h)),Kh (fun h=>⟨zB (B4.out (zA (by decide) h)).1,zB (B4.out (zA (by decide) h)).2.1,(B4.out (zA (by decide) h)).2.2⟩),Kh (fun h=>B5n.out (zC h)),Kh (fun h=>⟨zB (B5.out (zA (by decide) h)).1,zB (B5.out (zA (by decide) h)).2.1,(B5.out (zA (by decide) h)).2.2⟩),HB,HM⟩
  case fa16=>rw [ha0];simp only [zL,List.foldl_cons,List.foldl_nil,Act.put,sPa,sPb,sPc]
 case s17 =>
  intro l a w h hun hdep K hK
  obtain ⟨x123,x124,x129,x130,x134,x135,x136,x137,x138,vE,nE,xE,vP,nP,xP,vL,nL,xL,ls,c3,c4,c5,ha,HR,H3,H4n,H4,H9,H10n,H10,H14,H15n,H15,H16,H18,H20,B3n,B3,B4n,B4,B5n,B5,HB,HM⟩:=h
  have DH16:=H16.out (zK (hdep ⟨16,.data⟩ (by simp) rfl))
  have DH4:=H4.out (zK (hdep ⟨4,.data⟩ (by simp) rfl))
  subst DH16
  obtain ⟨sa,sc,rfl,rfl,rfl,rfl⟩:=DH4
  have hd6:=zK (hdep ⟨4,.data⟩ (by simp) rfl)
  subst ha
  rw [ha0]
  simp only [zL,List.foldl_cons,List.foldl_nil,Act.put,sPa,sPb,sPc]
  obtain ⟨k0,k1,k2,k3,k4,k5,k6,k7,k8⟩:=zW HB
  have kf:=zD HB 3
  go_simp
  have hg6:=zH w ⟨o,3,none⟩ (.slice sa (m+1) sc)
  have hs6:=heap_setCell_same w o 3 _ _ (.slice sa (m+1) sc) HB
  refine hK.out _ _ ?_
  refine ⟨x123,(.slice sa (m+1) sc),x129,x130,x134,x135,(.pointer (some ⟨o,3,none⟩)),x137,x138,(.slice sa (m+1) sc),(m+1),(hsE ++ [Value.slice (some ⟨gf,0,none⟩) n n]),vP,nP,xP,vL,nL,xL,ls,(.slice sa (m+1) sc),c4,c5,?fa17,fun j hj=>zB (HR j hj),Kh (fun h=>H3.out (zA (by decide) h)),Kh (fun h=>absurd (zB hd6) (by rw [h];simp)),Kh (fun _=>⟨sa,sc,rfl,rfl,rfl,rfl⟩),Kh (fun h=>H9.out (zA (by decide) h)),Kh (fun h=>H10n.out (zC h)),Kh (fun h=>⟨zB (H10.out (zA (by decide) h)).1,(H10.out (zA (by decide) h)).2⟩),Kh (fun h=>H14.out (zA (by decide) h)),Kh (fun h=>H15n.out (zC h)),Kh (fun h=>⟨zB (H15.out (zA (by decide) h)).1,(H15.out (zA (by decide) h)).2⟩),Kh (fun _=>rfl),Kh (fun h=>H18.out (zA (by decide) h)),Kh (fun h=>H20.out (zA (by decide) h)),Kh (fun h=>zY h),Kh (fun _=>⟨zB (zK (hdep ⟨4,.data⟩ (by simp) rfl)),zB (zK (hdep ⟨15,.chain⟩ (by simp) rfl)),rfl⟩),Kh (fun h=>B4n.out (zC h)),Kh (fun h=>absurd (B4.out (zA (by decide) h)).2.1 (by rw [hun];simp)),Kh (fun h=>B5n.out (zC h)),Kh (fun h=>⟨zB (B5.out (zA (by decide) h)).1,zB (B5.out (zA (by decide) h)).2.1,(B5.out (zA (by decide) h)).2.2⟩),(by simpa using hs6),HM.far hg6 hFo hoW (HM.not_type HB (rO hrest))⟩
  case fa17=>rw [ha0];simp only [zL,List.foldl_cons,List.foldl_nil,Act.put,sPa,sPb,sPc]
 case s18 =>
  intro l a w h hun hdep K hK
  obtain ⟨x123,x124,x129,x130,x134,x135,x136,x137,x138,vE,nE,xE,vP,nP,xP,vL,nL,xL,ls,c3,c4,c5,ha,HR,H3,H4n,H4,H9,H10n,H10,H14,H15n,H15,H16,H18,H20,B3n,B3,B4n,B4,B5n,B5,HB,HM⟩:=h
  subst ha
  rw [ha0]
  simp only [zL,List.foldl_cons,List.foldl_nil,Act.put,sPa,sPb,sPc]
  go_simp
  refine hK.out _ _ ?_
  refine ⟨x123,x124,x129,x130,x134,x135,x136,(.pointer (some ⟨o,4,none⟩)),x138,vE,nE,xE,vP,nP,xP,vL,nL,xL,ls,c3,c4,c5,?fa18,fun j hj=>zB (HR j hj),Kh (fun h=>H3.out (zA (by decide) h)),Kh (fun h=>H4n.out (zC h)),Kh (fun h=>H4.out (zA (by decide) h)),Kh (fun h=>H9.out (zA (by decide) h)),Kh (fun h=>H10n.out (zC h)),Kh (fun h=>⟨zB (H10.out (zA (by decide) h)).1,(H10.out (zA (by decide) h)).2⟩),Kh (fun h=>H14.out (zA (by decide) h)),Kh (fun h=>H15n.out (zC h)),Kh (fun h=>⟨zB (H15.out (zA (by decide) h)).1,(H15.out (zA (by decide) h)).2⟩),Kh (fun h=>H16.out (zA (by decide) h)),Kh (fun _=>rfl),Kh (fun h=>H20.out (zA (by decide) h)),Kh (fun h=>B3n.out (zC h)),Kh (fun h=>⟨zB (B3.out (zA (by decide) h)).1,zB (B3.out (zA (by decide) h)).2.1,(B3.out (zA (by decide) h)).2.2⟩),Kh (fun h=>B4n.out (zC h)),Kh (fun h=>⟨zB (B4.out (zA (by decide) h)).1,zB (B4.out (zA (by decide) h)).2.1,(B4.out (zA (by decide) h)).2.2⟩),Kh (fun h=>B5n.out (zC h)),Kh (fun h=>⟨zB (B5.out (zA (by decide) h)).1,zB (B5.out (zA (by decide) h)).2.1,(B5.out (zA (by decide) h)).2.2⟩),HB,HM⟩
  case fa18=>rw [ha0];simp only [zL,List.foldl_cons,List.foldl_nil,Act.put,sPa,sPb,sPc]
 case s19 =>
  intro l a w h hun hdep K hK
  obtain ⟨x123,x124,x129,x130,x134,x135,x136,x137,x138,vE,nE,xE,vP,nP,xP,vL,nL,xL,ls,c3,c4,c5,ha,HR,H3,H4n,H4,H9,H10n,H10,H14,H15n,H15,H16,H18,H20,B3n,B3,B4n,B4,B5n,B5,HB,HM⟩:=h
  have DH18:=H18.out (zK (hdep ⟨18,.data⟩ (by simp) rfl))
  have DH10:=H10.out (zK (hdep ⟨10,.data⟩ (by simp) rfl))
  subst DH18
  obtain ⟨hdr,sa,sc,rfl,rfl,rfl,rfl⟩:=DH10
  have hd6:=zK (hdep ⟨10,.data⟩ (by simp) rfl)
  subst ha
  rw [ha0]
  simp only [zL,List.foldl_cons,List.foldl_nil,Act.put,sPa,sPb,sPc]
  obtain ⟨k0,k1,k2,k3,k4,k5,k6,k7,k8⟩:=zW HB
  have kf:=zD HB 4
  go_simp
  have hg6:=zH w ⟨o,4,none⟩ (.slice sa (m+1) sc)
  have hs6:=heap_setCell_same w o 4 _ _ (.slice sa (m+1) sc) HB
  refine hK.out _ _ ?_
  refine ⟨x123,x124,x129,(.slice sa (m+1) sc),x134,x135,x136,(.pointer (some ⟨o,4,none⟩)),x138,vE,nE,xE,(.slice sa (m+1) sc),(m+1),(ints pre ++ [Value.int .i64 (d:Int)]),vL,nL,xL,ls,c3,(.slice sa (m+1) sc),c5,?fa19,fun j hj=>zB (HR j hj),Kh (fun h=>H3.out (zA (by decide) h)),Kh (fun h=>H4n.out (zC h)),Kh (fun h=>H4.out (zA (by decide) h)),Kh (fun h=>H9.out (zA (by decide) h)),Kh (fun h=>absurd (zB hd6) (by rw [h];simp)),Kh (fun _=>⟨zB hdr,sa,sc,rfl,rfl,rfl,rfl⟩),Kh (fun h=>H14.out (zA (by decide) h)),Kh (fun h=>H15n.out (zC h)),Kh (fun h=>⟨zB (H15.out (zA (by decide) h)).1,(H15.out (zA (by decide) h)).2⟩),Kh (fun h=>H16.out (zA (by decide) h)),Kh (fun _=>rfl),Kh (fun h=>H20.out (zA (by decide) h)),Kh (fun h=>B3n.out (zC h)),Kh (fun h=>⟨zB (B3.out (zA (by decide) h)).1,zB (B3.out (zA (by decide) h)).2.1,(B3.out (zA (by decide) h)).2.2⟩),Kh (fun h=>zY h),Kh (fun _=>⟨zB (zK (hdep ⟨10,.data⟩ (by simp) rfl)),zB (zK (hdep ⟨17,.chain⟩ (by simp) rfl)),rfl⟩),Kh (fun h=>B5n.out (zC h)),Kh (fun h=>absurd (B5.out (zA (by decide) h)).2.1 (by rw [hun];simp)),(by simpa using hs6),HM.far hg6 hFo hoW (HM.not_type HB (rO hrest))⟩
  case fa19=>rw [ha0];simp only [zL,List.foldl_cons,List.foldl_nil,Act.put,sPa,sPb,sPc]
 case s20 =>
  intro l a w h hun hdep K hK
  obtain ⟨x123,x124,x129,x130,x134,x135,x136,x137,x138,vE,nE,xE,vP,nP,xP,vL,nL,xL,ls,c3,c4,c5,ha,HR,H3,H4n,H4,H9,H10n,H10,H14,H15n,H15,H16,H18,H20,B3n,B3,B4n,B4,B5n,B5,HB,HM⟩:=h
  subst ha
  rw [ha0]
  simp only [zL,List.foldl_cons,List.foldl_nil,Act.put,sPa,sPb,sPc]
  go_simp
  refine hK.out _ _ ?_
  refine ⟨x123,x124,x129,x130,x134,x135,x136,x137,(.pointer (some ⟨o,5,none⟩)),vE,nE,xE,vP,nP,xP,vL,nL,xL,ls,c3,c4,c5,?fa20,fun j hj=>zB (HR j hj),Kh (fun h=>H3.out (zA (by decide) h)),Kh (fun h=>H4n.out (zC h)),Kh (fun h=>H4.out (zA (by decide) h)),Kh (fun h=>H9.out (zA (by decide) h)),Kh (fun h=>H10n.out (zC h)),Kh (fun h=>⟨zB (H10.out (zA (by decide) h)).1,(H10.out (zA (by decide) h)).2⟩),Kh (fun h=>H14.out (zA (by decide) h)),Kh (fun h=>H15n.out (zC h)),Kh (fun h=>⟨zB (H15.out (zA (by decide) h)).1,(H15.out (zA (by decide) h)).2⟩),Kh (fun h=>H16.out (zA (by decide) h)),Kh (fun h=>H18.out (zA (by decide) h)),Kh (fun _=>rfl),Kh (fun h=>B3n.out (zC h)),Kh (fun h=>⟨zB (B3.out (zA (by decide) h)).1,zB (B3.out (zA (by decide) h)).2.1,(B3.out (zA (by decide) h)).2.2⟩),Kh (fun h=>B4n.out (zC h)),Kh (fun h=>⟨zB (B4.out (zA (by decide) h)).1,zB (B4.out (zA (by decide) h)).2.1,(B4.out (zA (by decide) h)).2.2⟩),Kh (fun h=>B5n.out (zC h)),Kh (fun h=>⟨zB (B5.out (zA (by decide) h)).1,zB (B5.out (zA (by decide) h)).2.1,(B5.out (zA (by decide) h)).2.2⟩),HB,HM⟩
  case fa20=>rw [ha0];simp only [zL,List.foldl_cons,List.foldl_nil,Act.put,sPa,sPb,sPc]
 case s21 =>
  intro l a w h hun hdep K hK
  obtain ⟨x123,x124,x129,x130,x134,x135,x136,x137,x138,vE,nE,xE,vP,nP,xP,vL,nL,xL,ls,c3,c4,c5,ha,HR,H3,H4n,H4,H9,H10n,H10,H14,H15n,H15,H16,H18,H20,B3n,B3,B4n,B4,B5n,B5,HB,HM⟩:=h
  have DH20:=H20.out (zK (hdep ⟨20,.data⟩ (by simp) rfl))
  have DH15:=H15.out (zK (hdep ⟨15,.data⟩ (by simp) rfl))
  subst DH20
  obtain ⟨hdr,sa,sc,rfl,rfl,rfl,rfl⟩:=DH15
  have hd6:=zK (hdep ⟨15,.data⟩ (by simp) rfl)
  subst ha
  rw [ha0]
  simp only [zL,List.foldl_cons,List.foldl_nil,Act.put,sPa,sPb,sPc]
  obtain ⟨k0,k1,k2,k3,k4,k5,k6,k7,k8⟩:=zW HB
  have kf:=zD HB 5
  go_simp
  have hg6:=zH w ⟨o,5,none⟩ (.slice sa (m+1) sc)
  have hs6:=heap_setCell_same w o 5 _ _ (.slice sa (m+1) sc) HB
  refine hK.out _ _ ?_
  refine ⟨x123,x124,x129,x130,x134,(.slice sa (m+1) sc),x136,x137,(.pointer (some ⟨o,5,none⟩)),vE,nE,xE,vP,nP,xP,(.slice sa (m+1) sc),(m+1),(ints las ++ [Value.int .i64 (x:Int)]),ls,c3,c4,(.slice sa (m+1) sc),?fa21,fun j hj=>zB (HR j hj),Kh (fun h=>H3.out (zA (by decide) h)),Kh (fun h=>H4n.out (zC h)),Kh (fun h=>H4.out (zA (by decide) h)),Kh (fun h=>H9.out (zA (by decide) h)),Kh (fun h=>H10n.out (zC h)),Kh (fun h=>⟨zB (H10.out (zA (by decide) h)).1,(H10.out (zA (by decide) h)).2⟩),Kh (fun h=>H14.out (zA (by decide) h)),Kh (fun h=>absurd (zB hd6) (by rw [h];simp)),Kh (fun _=>⟨zB hdr,sa,sc,rfl,rfl,rfl,rfl⟩),Kh (fun h=>H16.out (zA (by decide) h)),Kh (fun h=>H18.out (zA (by decide) h)),Kh (fun _=>rfl),Kh (fun h=>B3n.out (zC h)),Kh (fun h=>⟨zB (B3.out (zA (by decide) h)).1,zB (B3.out (zA (by decide) h)).2.1,(B3.out (zA (by decide) h)).2.2⟩),Kh (fun h=>B4n.out (zC h)),Kh (fun h=>⟨zB (B4.out (zA (by decide) h)).1,zB (B4.out (zA (by decide) h)).2.1,(B4.out (zA (by decide) h)).2.2⟩),Kh (fun h=>zY h),Kh (fun _=>⟨zB (zK (hdep ⟨15,.data⟩ (by simp) rfl)),zB (zK (hdep ⟨19,.chain⟩ (by simp) rfl)),rfl⟩),(by simpa using hs6),HM.far hg6 hFo hoW (HM.not_type HB (rO hrest))⟩
  case fa21=>rw [ha0];simp only [zL,List.foldl_cons,List.foldl_nil,Act.put,sPa,sPb,sPc]
end Go.Proofs.YtdjhoadoiknaoaaDoor
