/- Part 16 of the proof: EProc0. -/
import Derived.Test.YtdjhoadoiknaoaaDoorZD15
set_option linter.unusedVariables false
set_option linter.unusedSimpArgs false
namespace Go.Proofs.YtdjhoadoiknaoaaDoor
open Go.RowKit
theorem Many.farNew {w0 W W':World} {F:Nat→Prop} {rs:List RowS} (h:Many w0 F W rs [] []) {r:Nat} (hg:W.grownBy W' (some r)) (hr:w0.heap.size≤r) (hne:∀ (j:Nat) (s:RowS),rs[j]?=some s→s.v.ownBlock≠some r):Many w0 F W' rs [] [] where
 own:=fun j s hs=>(h.own j s hs).kept hg (.inr (hne j s hs))
 mine:=h.mine
 apart:=h.apart
 lit:=fun p hp=>by cases hp
 pre:=fun p hp=>by cases hp
 but:=h.but.step hg (fun k e=>.inr (by have e:=Oj e;omega))
inductive proc1I (n P P2 m u:Nat) (pre las:List Int) (us hsE:List Value) (sE:Option Addr) (cE:Nat) (sP:Option Addr) (cP:Nat) (sL:Option Addr) (cL:Nat) (sU:Option Addr) (cU:Nat) (gA:Option Addr) (gN gC:Nat) (w5:World) (a0:Act) (l:Array Bool) (a:Act) (w:World):Prop
 | mk (x24:Value) (x27:Value) (x28:Value) (x31:Value) (x32:Value) (x35:Value) (x36:Value) (x39:Value) (x40:Value) (x43:Value) (x46:Value) (x6:Value) (vE:Value) (nE:Nat) (yE:List Value) (vP:Value) (nP:Nat) (yP:List Value) (vL:Value) (nL:Nat) (yL:List Value) (vR:Value) (nR:Nat) (yR:List Value) (vU:Value) (nU:Nat) (yU:List Value) (o:Nat) (ha:a=zL a0 [(24,x24),(27,x27),(28,x28),(31,x31),(32,x32),(35,x35),(36,x36),(39,x39),(40,x40),(43,x43),(46,x46),(6,x6)]) (HR:∀ j∈[0,1,2,3,4,5,7,8,11,12,15,16,19,20,23,24,26,27],l.getD j true=true) (H6n:Hid (l.getD 6 true=false→vE=.slice none 0 0∧nE=0∧yE=[])) (H6:Hid (l.getD 6 true=true→(l.getD 9 true=false→∃ g,x24=.slice (some ⟨g,0,none⟩) 0 0∧vE=.slice (some ⟨g,0,none⟩) 0 0∧nE=0∧yE=[]))) (H9:Hid (l.getD 9 true=true→l.getD 6 true=true∧∃ sa sc,x27=.slice sa m sc∧vE=.slice sa m sc∧m=nE∧hsE=yE)) (H10n:Hid (l.getD 10 true=false→vP=.slice none 0 0∧nP=0∧yP=[])) (H10:Hid (l.getD 10 true=true→(l.getD 13 true=false→∃ g,x28=.slice (some ⟨g,0,none⟩) 0 0∧vP=.slice (some ⟨g,0,none⟩) 0 0∧nP=0∧yP=[]))) (H13:Hid (l.getD 13 true=true→l.getD 10 true=true∧∃ sa sc,x31=.slice sa m sc∧vP=.slice sa m sc∧m=nP∧yP=ints pre)) (H14n:Hid (l.getD 14 true=false→vL=.slice none 0 0∧nL=0∧yL=[])) (H14:Hid (l.getD 14 true=true→(l.getD 17 true=false→∃ g,x32=.slice (some ⟨g,0,none⟩) 0 0∧vL=.slice (some ⟨g,0,none⟩) 0 0∧nL=0∧yL=[]))) (H17:Hid (l.getD 17 true=true→l.getD 14 true=true∧∃ sa sc,x35=.slice sa m sc∧vL=.slice sa m sc∧m=nL∧yL=ints las)) (H18n:Hid (l.getD 18 true=false→vR=.slice none 0 0∧nR=0∧yR=[])) (H18:Hid (l.getD 18 true=true→(l.getD 21 true=false→∃ g,x36=.slice (some ⟨g,0,none⟩) 0 0∧vR=.slice (some ⟨g,0,none⟩) 0 0∧nR=0∧yR=[]))) (H21:Hid (l.getD 21 true=true→l.getD 18 true=true∧∃ sa sc,x39=.slice sa 0 sc∧vR=.slice sa 0 sc∧nR=0∧yR=[])) (H22n:Hid (l.getD 22 true=false→vU=.slice none 0 0∧nU=0∧yU=[])) (H22:Hid (l.getD 22 true=true→(l.getD 25 true=false→∃ g,x40=.slice (some ⟨g,0,none⟩) 0 0∧vU=.slice (some ⟨g,0,none⟩) 0 0∧nU=0∧yU=[]))) (H25:Hid (l.getD 25 true=true→l.getD 22 true=true∧∃ sa sc,x43=.slice sa u sc∧vU=.slice sa u sc∧u=nU∧us=yU)) (H28:Hid (l.getD 28 true=true→l.getD 6 true=true∧l.getD 10 true=true∧l.getD 14 true=true∧l.getD 18 true=true∧l.getD 22 true=true∧l.getD 9 true=true∧l.getD 13 true=true∧l.getD 17 true=true∧l.getD 21 true=true∧l.getD 25 true=true∧x46=.agg #[.int .i64 n,.bool true,(.slice gA gN gC),vE,vP,vL,vR,vU,.int .i64 0])) (H29:Hid (l.getD 29 true=true→x6=.pointer (some ⟨o,0,none⟩)∧w5.heap.size≤o)) (B1:Hid (l.getD 29 true=true→(l.getD 30 true=false→w.heap[o]?=some (.cells #[.int .i64 0,.bool false,.slice none 0 0,.slice none 0 0,.slice none 0 0,.slice none 0 0,.slice none 0 0,.slice none 0 0,.int .i64 0] 106 (0,0))))) (B2:Hid (l.getD 30 true=true→l.getD 6 true=true∧l.getD 10 true=true∧l.getD 14 true=true∧l.getD 18 true=true∧l.getD 22 true=true∧l.getD 9 true=true∧l.getD 13 true=true∧l.getD 17 true=true∧l.getD 21 true=true∧l.getD 25 true=true∧l.getD 28 true=true∧l.getD 29 true=true∧w.heap[o]?=some (.cells #[.int .i64 n,.bool true,(.slice gA gN gC),vE,vP,vL,vR,vU,.int .i64 0] 106 (0,0)))) (HM:(Many w5 (fun _=>False) w [⟨P,22,vE,nE,yE,1⟩,⟨P,3,vP,nP,yP,1⟩,⟨P,3,vL,nL,yL,1⟩,⟨P,22,vR,nR,yR,1⟩,⟨P,140,vU,nU,yU,2⟩] [] []))
theorem proc1_G {n P P2 m u:Nat} {pre las:List Int} {us hsE:List Value} {sE:Option Addr} {cE:Nat} {sP:Option Addr} {cP:Nat} {sL:Option Addr} {cL:Nat} {sU:Option Addr} {cU:Nat} {gA:Option Addr} {gN gC:Nat} {w5:World} {a0:Act} {l:Array Bool} {a:Act} {w:World} (hb2:w5.heap[P2]?=some (.cells #[.int .i64 n,.bool true,.slice gA gN gC,.slice sE m cE,.slice sP m cP,.slice sL m cL,.slice none 0 0,.slice sU u cU,.int .i64 0] 106 (0,0))) (h:proc1I n P P2 m u pre las us hsE sE cE sP cP sL cL sU cU gA gN gC w5 a0 l a w):vV 99 (fun W=>W.cell? ⟨P2,0,none⟩=some (.int .i64 n)∧W.cell? ⟨P2,1,none⟩=some (.bool true)∧W.cell? ⟨P2,2,none⟩=some (.slice gA gN gC)∧W.cell? ⟨P2,3,none⟩=some (.slice sE m cE)∧W.cell? ⟨P2,4,none⟩=some (.slice sP m cP)∧W.cell? ⟨P2,5,none⟩=some (.slice sL m cL)∧W.cell? ⟨P2,6,none⟩=some (.slice none 0 0)∧W.cell? ⟨P2,7,none⟩=some (.slice sU u cU)∧W.cell? ⟨P2,8,none⟩=some (.int .i64 0)) (fun _=>True) l w:=by
 obtain ⟨x24,x27,x28,x31,x32,x35,x36,x39,x40,x43,x46,x6,vE,nE,yE,vP,nP,yP,vL,nL,yL,vR,nR,yR,vU,nU,yU,o,ha,HR,H6n,H6,H9,H10n,H10,H13,H14n,H14,H17,H18n,H18,H21,H22n,H22,H25,H28,H29,B1,B2,HM⟩:=h
 have hg:w5.grownBy w none:=HM.but.grown (zW w5 none) (fun k hk=>hk.elim)
 obtain ⟨q0,q1,q2,q3,q4,q5,q6,q7,q8⟩:=zX (zE hb2 hg (by simp))
 exact ⟨⟨q0,q1,q2,q3,q4,q5,q6,q7,q8⟩,fun _=>trivial⟩
theorem uW {n P P2 m u:Nat} {pre las:List Int} {us hsE:List Value} {sE:Option Addr} {cE:Nat} {sP:Option Addr} {cP:Nat} {sL:Option Addr} {cL:Nat} {sU:Option Addr} {cU:Nat} {gA:Option Addr} {gN gC:Nat} {w5:World} {a0:Act} {l:Array Bool} {a:Act} {w:World} (h:proc1I n P P2 m u pre las us hsE sE cE sP cP sL cL sU cU gA gN gC w5 a0 l a w):∀ j∈[0,1,2,3,4,5,7,8,11,12,15,16,19,20,23,24,26,27],l.getD j true=true:=by
 obtain ⟨x24,x27,x28,x31,x32,x35,x36,x39,x40,x43,x46,x6,vE,nE,yE,vP,nP,yP,vL,nL,yL,vR,nR,yR,vU,nU,yU,o,ha,HR,H6n,H6,H9,H10n,H10,H13,H14n,H14,H17,H18n,H18,H21,H22n,H22,H25,H28,H29,B1,B2,HM⟩:=h
 exact HR
set_option maxRecDepth 100000 in
set_option maxHeartbeats 8000000 in
theorem proc1_steps {n P P2 m u:Nat} {pre las:List Int} {us hsE:List Value} {sE:Option Addr} {cE:Nat} {sP:Option Addr} {cP:Nat} {sL:Option Addr} {cL:Nat} {sU:Option Addr} {cU:Nat} {gA:Option Addr} {gN gC:Nat} {w5:World} {v0 v1 v3 v4 v5 v6 v7 v8 v9 v10 v11 v12 v13 v14 v15 v16 v17 v24 v27 v28 v31 v32 v35 v36 v39 v40 v43 v46 v47 v48 v49 v50 v51 v52 v53 v54 v55 v56 v57 v58 v59 v60 v61 v62 v63 v64 v65 v66 v67 v68 v69 v70 v71 v72 v73 v74 v75 v76 v77 v78 v79 v80 v81 v82 v83 v84 v85 v86 v87 v88 v89 v90 v91 v92 v93 v94 v95 v96 v97 v98 v99 v100 v101 v102 v103 v104 v105 v106 v107 v108 v109 v110 v111 v112 v113 v114 v115 v116 v117 v118 v119 v120 v121 v122 v123 v124 v125 v126 v127 v128 v129 v130 v131 v132 v133 v134 v135 v136 v137 v138 v139 v140 v141 v142 v143 v144 v145 v146 v147 v148 v149 v150 v151 v152 v153 v154 v155 v156 v157 v158 v159 v160 v161 v162 v163 v164 v165 v166 v167 v168 v169 v170 v171 v172 v173 v174 v175 v176 v177 v178 v179 v180 v181 v182 v183 v184 v185 v186 v187 v188 v189 v190:Value} {dd:_} {a0:Act} (ha0:a0=⟨#[v0,v1,.pointer (some ⟨P2,0,none⟩),v3,v4,v5,v6,v7,v8,v9,v10,v11,v12,v13,v14,v15,v16,v17,.pointer (some ⟨P2,0,none⟩),.int .i64 n,.pointer (some ⟨P2,1,none⟩),.bool true,.pointer (some ⟨P2,2,none⟩),.slice gA gN gC,v24,.pointer (some ⟨P2,3,none⟩),.slice sE m cE,v27,v28,.pointer (some ⟨P2,4,none⟩),.slice sP m cP,v31,v32,.pointer (some ⟨P2,5,none⟩),.slice sL m cL,v35,v36,.pointer (some ⟨P2,6,none⟩),.slice none 0 0,v39,v40,.pointer (some ⟨P2,7,none⟩),.slice sU u cU,v43,.pointer (some ⟨P2,8,none⟩),.int .i64 0,v46,v47,v48,v49,v50,v51,v52,v53,v54,v55,v56,v57,v58,v59,v60,v61,v62,v63,v64,v65,v66,v67,v68,v69,v70,v71,v72,v73,v74,v75,v76,v77,v78,v79,v80,v81,v82,v83,v84,v85,v86,v87,v88,v89,v90,v91,v92,v93,v94,v95,v96,v97,v98,v99,v100,v101,v102,v103,v104,v105,v106,v107,v108,v109,v110,v111,v112,v113,v114,v115,v116,v117,v118,v119,v120,v121,v122,v123,v124,v125,v126,v127,v128,v129,v130,v131,v132,v133,v134,v135,v136,v137,v138,v139,v140,v141,v142,v143,v144,v145,v146,v147,v148,v149,v150,v151,v152,v153,v154,v155,v156,v157,v158,v159,v160,v161,v162,v163,v164,v165,v166,v167,v168,v169,v170,v171,v172,v173,v174,v175,v176,v177,v178,v179,v180,v181,v182,v183,v184,v185,v186,v187,v188,v189,v190],dd⟩) (hm7:m≤2000) (hu:u≤2000) (hbase:P≤w5.heap.size) (hsE0:∀ W:World,GrownBut w5 W (fun _=>False)→tD W 1 (.slice sE m cE) m hsE) (hsP:∀ W:World,GrownBut w5 W (fun _=>False)→tD W 1 (.slice sP m cP) m (ints pre)) (hsL:∀ W:World,GrownBut w5 W (fun _=>False)→tD W 1 (.slice sL m cL) m (ints las)) (hsR:∀ W:World,GrownBut w5 W (fun _=>False)→tD W 1 (.slice none 0 0) 0 []) (hsU:∀ W:World,GrownBut w5 W (fun _=>False)→tD W 2 (.slice sU u cU) u us) (hoE:∀ v∈hsE,v.oneCell'=true) (hoP:∀ v∈ints pre,v.oneCell'=true) (hoL:∀ v∈ints las,v.oneCell'=true) (hoR:∀ v∈([]:List Value),v.oneCell'=true) (hoU:∀ v∈us,v.oneCell'=true) (ops7:Array Oper) (Q7:Exit→Act→World→Prop):oX (gG Tryd.prog .any ops7 Q7 (proc1I n P P2 m u pre las us hsE sE cE sP cP sL cL sU cU gA gN gC w5 a0)) 0 (qV Tryd.f105 1).toList:=by
 refine ⟨?s0,?s1,?s2,?s3,?s4,?s5,?s6,?s7,?s8,?s9,?s10,?s11,?s12,?s13,?s14,?s15,?s16,?s17,?s18,?s19,?s20,?s21,?s22,?s23,?s24,?s25,?s26,?s27,?s28,?s29,?s30,trivial⟩
 case s0 =>
  exact fun l a w h hun=>absurd (uW h 0 (by simp)) (by rw [hun];simp)
 case s1 =>
  exact fun l a w h hun=>absurd (uW h 1 (by simp)) (by rw [hun];simp)
 case s2 =>
  exact fun l a w h hun=>absurd (uW h 2 (by simp)) (by rw [hun];simp)
 case s3 =>
  exact fun l a w h hun=>absurd (uW h 3 (by simp)) (by rw [hun];simp)
 case s4 =>
  exact fun l a w h hun=>absurd (uW h 4 (by simp)) (by rw [hun];simp)
 case s5 =>
  exact fun l a w h hun=>absurd (uW h 5 (by simp)) (by rw [hun];simp)
 case s6 =>
  intro l a w h hun hdep K hK
  obtain ⟨x24,x27,x28,x31,x32,x35,x36,x39,x40,x43,x46,x6,vE,nE,yE,vP,nP,yP,vL,nL,yL,vR,nR,yR,vU,nU,yU,o,ha,HR,H6n,H6,H9,H10n,H10,H13,H14n,H14,H17,H18n,H18,H21,H22n,H22,H25,H28,H29,B1,B2,HM⟩:=h
  obtain ⟨rfl,rfl,rfl⟩:=H6n.out hun
  subst ha
  rw [ha0]
  simp only [zL,List.foldl_cons,List.foldl_nil,Act.put,sPa,sPb,sPc]
  go_simp
  have hM6:=HM.lit0 (j:=0) rfl hbase
  refine hK.out _ _ ?_
  refine ⟨(.slice (some ⟨w.heap.size,0,none⟩) 0 0),x27,x28,x31,x32,x35,x36,x39,x40,x43,x46,x6,(.slice (some ⟨w.heap.size,0,none⟩) 0 0),0,[],vP,nP,yP,vL,nL,yL,vR,nR,yR,vU,nU,yU,o,?fa6,fun j hj=>zB (HR j hj),Kh (fun h=>yB h),Kh (fun _ _=>⟨w.heap.size,rfl,rfl,rfl,rfl⟩),Kh (fun h=>absurd (H9.out (zA (by decide) h)).1 (by rw [hun];simp)),Kh (fun h=>H10n.out (zC h)),Kh (fun h h4=>H10.out (zA (by decide) h) (zC h4)),Kh (fun h=>⟨zB (H13.out (zA (by decide) h)).1,(H13.out (zA (by decide) h)).2⟩),Kh (fun h=>H14n.out (zC h)),Kh (fun h h4=>H14.out (zA (by decide) h) (zC h4)),Kh (fun h=>⟨zB (H17.out (zA (by decide) h)).1,(H17.out (zA (by decide) h)).2⟩),Kh (fun h=>H18n.out (zC h)),Kh (fun h h4=>H18.out (zA (by decide) h) (zC h4)),Kh (fun h=>⟨zB (H21.out (zA (by decide) h)).1,(H21.out (zA (by decide) h)).2⟩),Kh (fun h=>H22n.out (zC h)),Kh (fun h h4=>H22.out (zA (by decide) h) (zC h4)),Kh (fun h=>⟨zB (H25.out (zA (by decide) h)).1,(H25.out (zA (by decide) h)).2⟩),Kh (fun h=>absurd (H28.out (zA (by decide) h)).1 (by rw [hun];simp)),Kh (fun h=>H29.out (zA (by decide) h)),Kh (fun h h9=>zE (B1.out (zA (by decide) h) (zC h9)) (Ga w (.cells #[] 22) none) (by simp)),Kh (fun h=>absurd (B2.out (zA (by decide) h)).1 (by rw [hun];simp)),hM6⟩
  case fa6=>rw [ha0];simp only [zL,List.foldl_cons,List.foldl_nil,Act.put,sPa,sPb,sPc]
 case s7 =>
  exact fun l a w h hun=>absurd (uW h 7 (by simp)) (by rw [hun];simp)
 case s8 =>
  exact fun l a w h hun=>absurd (uW h 8 (by simp)) (by rw [hun];simp)
 case s9 =>
  intro l a w h hun hdep K hK
  obtain ⟨x24,x27,x28,x31,x32,x35,x36,x39,x40,x43,x46,x6,vE,nE,yE,vP,nP,yP,vL,nL,yL,vR,nR,yR,vU,nU,yU,o,ha,HR,H6n,H6,H9,H10n,H10,H13,H14n,H14,H17,H18n,H18,H21,H22n,H22,H25,H28,H29,B1,B2,HM⟩:=h
  have DH6:=H6.out (zK (hdep ⟨6,.data⟩ (by simp) rfl))
  obtain ⟨g2,rfl,rfl,rfl,rfl⟩:=DH6 hun
  have hd2:=zK (hdep ⟨6,.data⟩ (by simp) rfl)
  subst ha
  rw [ha0]
  simp only [zL,List.foldl_cons,List.foldl_nil,Act.put,sPa,sPb,sPc]
  refine sY (by simp [Region.wanted]) (.tmp 24) (.tmp 26) 26 rfl vO.toN 0 _ rfl HM rfl rfl rfl rfl (hsE0 w HM.but) ?g19 (Nat.zero_add _) ?g29 ?g39 hbase ?_
  case g19=>exact hoE
  case g29=>unfold maxLen;omega
  case g39=>omega
  intro sa sc w6 hM6 hg6
  rw [List.nil_append] at hM6
  refine hK.out _ _ ?_
  refine ⟨(.slice (some ⟨g2,0,none⟩) 0 0),(.slice sa m sc),x28,x31,x32,x35,x36,x39,x40,x43,x46,x6,(.slice sa m sc),m,(hsE),vP,nP,yP,vL,nL,yL,vR,nR,yR,vU,nU,yU,o,?fa9,fun j hj=>zB (HR j hj),Kh (fun h=>absurd (zB hd2) (by rw [h];simp)),Kh (fun _ h4=>yB h4),Kh (fun _=>⟨zB hd2,sa,sc,rfl,rfl,rfl,rfl⟩),Kh (fun h=>H10n.out (zC h)),Kh (fun h h4=>H10.out (zA (by decide) h) (zC h4)),Kh (fun h=>⟨zB (H13.out (zA (by decide) h)).1,(H13.out (zA (by decide) h)).2⟩),Kh (fun h=>H14n.out (zC h)),Kh (fun h h4=>H14.out (zA (by decide) h) (zC h4)),Kh (fun h=>⟨zB (H17.out (zA (by decide) h)).1,(H17.out (zA (by decide) h)).2⟩),Kh (fun h=>H18n.out (zC h)),Kh (fun h h4=>H18.out (zA (by decide) h) (zC h4)),Kh (fun h=>⟨zB (H21.out (zA (by decide) h)).1,(H21.out (zA (by decide) h)).2⟩),Kh (fun h=>H22n.out (zC h)),Kh (fun h h4=>H22.out (zA (by decide) h) (zC h4)),Kh (fun h=>⟨zB (H25.out (zA (by decide) h)).1,(H25.out (zA (by decide) h)).2⟩),Kh (fun h=>absurd (H28.out (zA (by decide) h)).2.2.2.2.2.1 (by rw [hun];simp)),Kh (fun h=>H29.out (zA (by decide) h)),Kh (fun h h9=>zE (B1.out (zA (by decide) h) (zC h9)) hg6 (fun e=>HM.not_type (B1.out (zA (by decide) h) (zC h9)) (by simp) 0 _ rfl e)),Kh (fun h=>absurd (B2.out (zA (by decide) h)).2.2.2.2.2.1 (by rw [hun];simp)),hM6⟩
  case fa9=>rw [ha0];simp only [zL,List.foldl_cons,List.foldl_nil,Act.put,sPa,sPb,sPc]
 case s10 =>
  intro l a w h hun hdep K hK
  obtain ⟨x24,x27,x28,x31,x32,x35,x36,x39,x40,x43,x46,x6,vE,nE,yE,vP,nP,yP,vL,nL,yL,vR,nR,yR,vU,nU,yU,o,ha,HR,H6n,H6,H9,H10n,H10,H13,H14n,H14,H17,H18n,H18,H21,H22n,H22,H25,H28,H29,B1,B2,HM⟩:=h
  obtain ⟨rfl,rfl,rfl⟩:=H10n.out hun
  subst ha
  rw [ha0]
  simp only [zL,List.foldl_cons,List.foldl_nil,Act.put,sPa,sPb,sPc]
  go_simp
  have hM6:=HM.lit0 (j:=1) rfl hbase
  refine hK.out _ _ ?_
  refine ⟨x24,x27,(.slice (some ⟨w.heap.size,0,none⟩) 0 0),x31,x32,x35,x36,x39,x40,x43,x46,x6,vE,nE,yE,(.slice (some ⟨w.heap.size,0,none⟩) 0 0),0,[],vL,nL,yL,vR,nR,yR,vU,nU,yU,o,?fa10,fun j hj=>zB (HR j hj),Kh (fun h=>H6n.out (zC h)),Kh (fun h h4=>H6.out (zA (by decide) h) (zC h4)),Kh (fun h=>⟨zB (H9.out (zA (by decide) h)).1,(H9.out (zA (by decide) h)).2⟩),Kh (fun h=>yB h),Kh (fun _ _=>⟨w.heap.size,rfl,rfl,rfl,rfl⟩),Kh (fun h=>absurd (H13.out (zA (by decide) h)).1 (by rw [hun];simp)),Kh (fun h=>H14n.out (zC h)),Kh (fun h h4=>H14.out (zA (by decide) h) (zC h4)),Kh (fun h=>⟨zB (H17.out (zA (by decide) h)).1,(H17.out (zA (by decide) h)).2⟩),Kh (fun h=>H18n.out (zC h)),Kh (fun h h4=>H18.out (zA (by decide) h) (zC h4)),Kh (fun h=>⟨zB (H21.out (zA (by decide) h)).1,(H21.out (zA (by decide) h)).2⟩),Kh (fun h=>H22n.out (zC h)),Kh (fun h h4=>H22.out (zA (by decide) h) (zC h4)),Kh (fun h=>⟨zB (H25.out (zA (by decide) h)).1,(H25.out (zA (by decide) h)).2⟩),Kh (fun h=>absurd (H28.out (zA (by decide) h)).2.1 (by rw [hun];simp)),Kh (fun h=>H29.out (zA (by decide) h)),Kh (fun h h9=>zE (B1.out (zA (by decide) h) (zC h9)) (Ga w (.cells #[] 3) none) (by simp)),Kh (fun h=>absurd (B2.out (zA (by decide) h)).2.1 (by rw [hun];simp)),hM6⟩
  case fa10=>rw [ha0];simp only [zL,List.foldl_cons,List.foldl_nil,Act.put,sPa,sPb,sPc]
 case s11 =>
  exact fun l a w h hun=>absurd (uW h 11 (by simp)) (by rw [hun];simp)
 case s12 =>
  exact fun l a w h hun=>absurd (uW h 12 (by simp)) (by rw [hun];simp)
 case s13 =>
  intro l a w h hun hdep K hK
  obtain ⟨x24,x27,x28,x31,x32,x35,x36,x39,x40,x43,x46,x6,vE,nE,yE,vP,nP,yP,vL,nL,yL,vR,nR,yR,vU,nU,yU,o,ha,HR,H6n,H6,H9,H10n,H10,H13,H14n,H14,H17,H18n,H18,H21,H22n,H22,H25,H28,H29,B1,B2,HM⟩:=h
  have DH10:=H10.out (zK (hdep ⟨10,.data⟩ (by simp) rfl))
  obtain ⟨g2,rfl,rfl,rfl,rfl⟩:=DH10 hun
  have hd2:=zK (hdep ⟨10,.data⟩ (by simp) rfl)
  subst ha
  rw [ha0]
  simp only [zL,List.foldl_cons,List.foldl_nil,Act.put,sPa,sPb,sPc]
  refine sY (by simp [Region.wanted]) (.tmp 28) (.tmp 30) 22 rfl yC.toN 1 _ rfl HM rfl rfl rfl rfl (hsP w HM.but) ?g113 (Nat.zero_add _) ?g213 ?g313 hbase ?_
  case g113=>exact hoP
  case g213=>unfold maxLen;omega
  case g313=>omega
  intro sa sc w6 hM6 hg6
  rw [List.nil_append] at hM6
  refine hK.out _ _ ?_
  refine ⟨x24,x27,(.slice (some ⟨g2,0,none⟩) 0 0),(.slice sa m sc),x32,x35,x36,x39,x40,x43,x46,x6,vE,nE,yE,(.slice sa m sc),m,(ints pre),vL,nL,yL,vR,nR,yR,vU,nU,yU,o,?fa13,fun j hj=>zB (HR j hj),Kh (fun h=>H6n.out (zC h)),Kh (fun h h4=>H6.out (zA (by decide) h) (zC h4)),Kh (fun h=>⟨zB (H9.out (zA (by decide) h)).1,(H9.out (zA (by decide) h)).2⟩),Kh (fun h=>absurd (zB hd2) (by rw [h];simp)),Kh (fun _ h4=>yB h4),Kh (fun _=>⟨zB hd2,sa,sc,rfl,rfl,rfl,rfl⟩),Kh (fun h=>H14n.out (zC h)),Kh (fun h h4=>H14.out (zA (by decide) h) (zC h4)),Kh (fun h=>⟨zB (H17.out (zA (by decide) h)).1,(H17.out (zA (by decide) h)).2⟩),Kh (fun h=>H18n.out (zC h)),Kh (fun h h4=>H18.out (zA (by decide) h) (zC h4)),Kh (fun h=>⟨zB (H21.out (zA (by decide) h)).1,(H21.out (zA (by decide) h)).2⟩),Kh (fun h=>H22n.out (zC h)),Kh (fun h h4=>H22.out (zA (by decide) h) (zC h4)),Kh (fun h=>⟨zB (H25.out (zA (by decide) h)).1,(H25.out (zA (by decide) h)).2⟩),Kh (fun h=>absurd (H28.out (zA (by decide) h)).2.2.2.2.2.2.1 (by rw [hun];simp)),Kh (fun h=>H29.out (zA (by decide) h)),Kh (fun h h9=>zE (B1.out (zA (by decide) h) (zC h9)) hg6 (fun e=>HM.not_type (B1.out (zA (by decide) h) (zC h9)) (by simp) 1 _ rfl e)),Kh (fun h=>absurd (B2.out (zA (by decide) h)).2.2.2.2.2.2.1 (by rw [hun];simp)),hM6⟩
  case fa13=>rw [ha0];simp only [zL,List.foldl_cons,List.foldl_nil,Act.put,sPa,sPb,sPc]
 case s14 =>
  intro l a w h hun hdep K hK
  obtain ⟨x24,x27,x28,x31,x32,x35,x36,x39,x40,x43,x46,x6,vE,nE,yE,vP,nP,yP,vL,nL,yL,vR,nR,yR,vU,nU,yU,o,ha,HR,H6n,H6,H9,H10n,H10,H13,H14n,H14,H17,H18n,H18,H21,H22n,H22,H25,H28,H29,B1,B2,HM⟩:=h
  obtain ⟨rfl,rfl,rfl⟩:=H14n.out hun
  subst ha
  rw [ha0]
  simp only [zL,List.foldl_cons,List.foldl_nil,Act.put,sPa,sPb,sPc]
  go_simp
  have hM6:=HM.lit0 (j:=2) rfl hbase
  refine hK.out _ _ ?_
  refine ⟨x24,x27,x28,x31,(.slice (some ⟨w.heap.size,0,none⟩) 0 0),x35,x36,x39,x40,x43,x46,x6,vE,nE,yE,vP,nP,yP,(.slice (some ⟨w.heap.size,0,none⟩) 0 0),0,[],vR,nR,yR,vU,nU,yU,o,?fa14,fun j hj=>zB (HR j hj),Kh (fun h=>H6n.out (zC h)),Kh (fun h h4=>H6.out (zA (by decide) h) (zC h4)),Kh (fun h=>⟨zB (H9.out (zA (by decide) h)).1,(H9.out (zA (by decide) h)).2⟩),Kh (fun h=>H10n.out (zC h)),Kh (fun h h4=>H10.out (zA (by decide) h) (zC h4)),Kh (fun h=>⟨zB (H13.out (zA (by decide) h)).1,(H13.out (zA (by decide) h)).2⟩),Kh (fun h=>yB h),Kh (fun _ _=>⟨w.heap.size,rfl,rfl,rfl,rfl⟩),Kh (fun h=>absurd (H17.out (zA (by decide) h)).1 (by rw [hun];simp)),Kh (fun h=>H18n.out (zC h)),Kh (fun h h4=>H18.out (zA (by decide) h) (zC h4)),Kh (fun h=>⟨zB (H21.out (zA (by decide) h)).1,(H21.out (zA (by decide) h)).2⟩),Kh (fun h=>H22n.out (zC h)),Kh (fun h h4=>H22.out (zA (by decide) h) (zC h4)),Kh (fun h=>⟨zB (H25.out (zA (by decide) h)).1,(H25.out (zA (by decide) h)).2⟩),Kh (fun h=>absurd (H28.out (zA (by decide) h)).2.2.1 (by rw [hun];simp)),Kh (fun h=>H29.out (zA (by decide) h)),Kh (fun h h9=>zE (B1.out (zA (by decide) h) (zC h9)) (Ga w (.cells #[] 3) none) (by simp)),Kh (fun h=>absurd (B2.out (zA (by decide) h)).2.2.1 (by rw [hun];simp)),hM6⟩
  case fa14=>rw [ha0];simp only [zL,List.foldl_cons,List.foldl_nil,Act.put,sPa,sPb,sPc]
 case s15 =>
  exact fun l a w h hun=>absurd (uW h 15 (by simp)) (by rw [hun];simp)
 case s16 =>
  exact fun l a w h hun=>absurd (uW h 16 (by simp)) (by rw [hun];simp)
 case s17 =>
  intro l a w h hun hdep K hK
  obtain ⟨x24,x27,x28,x31,x32,x35,x36,x39,x40,x43,x46,x6,vE,nE,yE,vP,nP,yP,vL,nL,yL,vR,nR,yR,vU,nU,yU,o,ha,HR,H6n,H6,H9,H10n,H10,H13,H14n,H14,H17,H18n,H18,H21,H22n,H22,H25,H28,H29,B1,B2,HM⟩:=h
  have DH14:=H14.out (zK (hdep ⟨14,.data⟩ (by simp) rfl))
  obtain ⟨g2,rfl,rfl,rfl,rfl⟩:=DH14 hun
  have hd2:=zK (hdep ⟨14,.data⟩ (by simp) rfl)
  subst ha
  rw [ha0]
  simp only [zL,List.foldl_cons,List.foldl_nil,Act.put,sPa,sPb,sPc]
  refine sY (by simp [Region.wanted]) (.tmp 32) (.tmp 34) 22 rfl yC.toN 2 _ rfl HM rfl rfl rfl rfl (hsL w HM.but) ?g117 (Nat.zero_add _) ?g217 ?g317 hbase ?_
  case g117=>exact hoL
  case g217=>unfold maxLen;omega
  case g317=>omega
  intro sa sc w6 hM6 hg6
  rw [List.nil_append] at hM6
  refine hK.out _ _ ?_
  refine ⟨x24,x27,x28,x31,(.slice (some ⟨g2,0,none⟩) 0 0),(.slice sa m sc),x36,x39,x40,x43,x46,x6,vE,nE,yE,vP,nP,yP,(.slice sa m sc),m,(ints las),vR,nR,yR,vU,nU,yU,o,?fa17,fun j hj=>zB (HR j hj),Kh (fun h=>H6n.out (zC h)),Kh (fun h h4=>H6.out (zA (by decide) h) (zC h4)),Kh (fun h=>⟨zB (H9.out (zA (by decide) h)).1,(H9.out (zA (by decide) h)).2⟩),Kh (fun h=>H10n.out (zC h)),Kh (fun h h4=>H10.out (zA (by decide) h) (zC h4)),Kh (fun h=>⟨zB (H13.out (zA (by decide) h)).1,(H13.out (zA (by decide) h)).2⟩),Kh (fun h=>absurd (zB hd2) (by rw [h];simp)),Kh (fun _ h4=>yB h4),Kh (fun _=>⟨zB hd2,sa,sc,rfl,rfl,rfl,rfl⟩),Kh (fun h=>H18n.out (zC h)),Kh (fun h h4=>H18.out (zA (by decide) h) (zC h4)),Kh (fun h=>⟨zB (H21.out (zA (by decide) h)).1,(H21.out (zA (by decide) h)).2⟩),Kh (fun h=>H22n.out (zC h)),Kh (fun h h4=>H22.out (zA (by decide) h) (zC h4)),Kh (fun h=>⟨zB (H25.out (zA (by decide) h)).1,(H25.out (zA (by decide) h)).2⟩),Kh (fun h=>absurd (H28.out (zA (by decide) h)).2.2.2.2.2.2.2.1 (by rw [hun];simp)),Kh (fun h=>H29.out (zA (by decide) h)),Kh (fun h h9=>zE (B1.out (zA (by decide) h) (zC h9)) hg6 (fun e=>HM.not_type (B1.out (zA (by decide) h) (zC h9)) (by simp) 2 _ rfl e)),Kh (fun h=>absurd (B2.out (zA (by decide) h)).2.2.2.2.2.2.2.1 (by rw [hun];simp)),hM6⟩
  case fa17=>rw [ha0];simp only [zL,List.foldl_cons,List.foldl_nil,Act.put,sPa,sPb,sPc]
 case s18 =>
  intro l a w h hun hdep K hK
  obtain ⟨x24,x27,x28,x31,x32,x35,x36,x39,x40,x43,x46,x6,vE,nE,yE,vP,nP,yP,vL,nL,yL,vR,nR,yR,vU,nU,yU,o,ha,HR,H6n,H6,H9,H10n,H10,H13,H14n,H14,H17,H18n,H18,H21,H22n,H22,H25,H28,H29,B1,B2,HM⟩:=h
  obtain ⟨rfl,rfl,rfl⟩:=H18n.out hun
  subst ha
  rw [ha0]
  simp only [zL,List.foldl_cons,List.foldl_nil,Act.put,sPa,sPb,sPc]
  go_simp
  have hM6:=HM.lit0 (j:=3) rfl hbase
  refine hK.out _ _ ?_
  refine ⟨x24,x27,x28,x31,x32,x35,(.slice (some ⟨w.heap.size,0,none⟩) 0 0),x39,x40,x43,x46,x6,vE,nE,yE,vP,nP,yP,vL,nL,yL,(.slice (some ⟨w.heap.size,0,none⟩) 0 0),0,[],vU,nU,yU,o,?fa18,fun j hj=>zB (HR j hj),Kh (fun h=>H6n.out (zC h)),Kh (fun h h4=>H6.out (zA (by decide) h) (zC h4)),Kh (fun h=>⟨zB (H9.out (zA (by decide) h)).1,(H9.out (zA (by decide) h)).2⟩),Kh (fun h=>H10n.out (zC h)),Kh (fun h h4=>H10.out (zA (by decide) h) (zC h4)),Kh (fun h=>⟨zB (H13.out (zA (by decide) h)).1,(H13.out (zA (by decide) h)).2⟩),Kh (fun h=>H14n.out (zC h)),Kh (fun h h4=>H14.out (zA (by decide) h) (zC h4)),Kh (fun h=>⟨zB (H17.out (zA (by decide) h)).1,(H17.out (zA (by decide) h)).2⟩),Kh (fun h=>yB h),Kh (fun _ _=>⟨w.heap.size,rfl,rfl,rfl,rfl⟩),Kh (fun h=>absurd (H21.out (zA (by decide) h)).1 (by rw [hun];simp)),Kh (fun h=>H22n.out (zC h)),Kh (fun h h4=>H22.out (zA (by decide) h) (zC h4)),Kh (fun h=>⟨zB (H25.out (zA (by decide) h)).1,(H25.out (zA (by decide) h)).2⟩),Kh (fun h=>absurd (H28.out (zA (by decide) h)).2.2.2.1 (by rw [hun];simp)),Kh (fun h=>H29.out (zA (by decide) h)),Kh (fun h h9=>zE (B1.out (zA (by decide) h) (zC h9)) (Ga w (.cells #[] 22) none) (by simp)),Kh (fun h=>absurd (B2.out (zA (by decide) h)).2.2.2.1 (by rw [hun];simp)),hM6⟩
  case fa18=>rw [ha0];simp only [zL,List.foldl_cons,List.foldl_nil,Act.put,sPa,sPb,sPc]
 case s19 =>
  exact fun l a w h hun=>absurd (uW h 19 (by simp)) (by rw [hun];simp)
 case s20 =>
  exact fun l a w h hun=>absurd (uW h 20 (by simp)) (by rw [hun];simp)
 case s21 =>
  intro l a w h hun hdep K hK
  obtain ⟨x24,x27,x28,x31,x32,x35,x36,x39,x40,x43,x46,x6,vE,nE,yE,vP,nP,yP,vL,nL,yL,vR,nR,yR,vU,nU,yU,o,ha,HR,H6n,H6,H9,H10n,H10,H13,H14n,H14,H17,H18n,H18,H21,H22n,H22,H25,H28,H29,B1,B2,HM⟩:=h
  have DH18:=H18.out (zK (hdep ⟨18,.data⟩ (by simp) rfl))
  obtain ⟨g2,rfl,rfl,rfl,rfl⟩:=DH18 hun
  have hd2:=zK (hdep ⟨18,.data⟩ (by simp) rfl)
  subst ha
  rw [ha0]
  simp only [zL,List.foldl_cons,List.foldl_nil,Act.put,sPa,sPb,sPc]
  refine sY (by simp [Region.wanted]) (.tmp 36) (.tmp 38) 26 rfl vO.toN 3 _ rfl HM rfl rfl rfl rfl (hsR w HM.but) ?g121 (Nat.zero_add _) ?g221 ?g321 hbase ?_
  case g121=>exact hoR
  case g221=>unfold maxLen;omega
  case g321=>omega
  intro sa sc w6 hM6 hg6
  rw [List.nil_append] at hM6
  refine hK.out _ _ ?_
  refine ⟨x24,x27,x28,x31,x32,x35,(.slice (some ⟨g2,0,none⟩) 0 0),(.slice sa 0 sc),x40,x43,x46,x6,vE,nE,yE,vP,nP,yP,vL,nL,yL,(.slice sa 0 sc),0,([]),vU,nU,yU,o,?fa21,fun j hj=>zB (HR j hj),Kh (fun h=>H6n.out (zC h)),Kh (fun h h4=>H6.out (zA (by decide) h) (zC h4)),Kh (fun h=>⟨zB (H9.out (zA (by decide) h)).1,(H9.out (zA (by decide) h)).2⟩),Kh (fun h=>H10n.out (zC h)),Kh (fun h h4=>H10.out (zA (by decide) h) (zC h4)),Kh (fun h=>⟨zB (H13.out (zA (by decide) h)).1,(H13.out (zA (by decide) h)).2⟩),Kh (fun h=>H14n.out (zC h)),Kh (fun h h4=>H14.out (zA (by decide) h) (zC h4)),Kh (fun h=>⟨zB (H17.out (zA (by decide) h)).1,(H17.out (zA (by decide) h)).2⟩),Kh (fun h=>absurd (zB hd2) (by rw [h];simp)),Kh (fun _ h4=>yB h4),Kh (fun _=>⟨zB hd2,sa,sc,rfl,rfl,rfl,rfl⟩),Kh (fun h=>H22n.out (zC h)),Kh (fun h h4=>H22.out (zA (by decide) h) (zC h4)),Kh (fun h=>⟨zB (H25.out (zA (by decide) h)).1,(H25.out (zA (by decide) h)).2⟩),Kh (fun h=>absurd (H28.out (zA (by decide) h)).2.2.2.2.2.2.2.2.1 (by rw [hun];simp)),Kh (fun h=>H29.out (zA (by decide) h)),Kh (fun h h9=>zE (B1.out (zA (by decide) h) (zC h9)) hg6 (fun e=>HM.not_type (B1.out (zA (by decide) h) (zC h9)) (by simp) 3 _ rfl e)),Kh (fun h=>absurd (B2.out (zA (by decide) h)).2.2.2.2.2.2.2.2.1 (by rw [hun];simp)),hM6⟩
  case fa21=>rw [ha0];simp only [zL,List.foldl_cons,List.foldl_nil,Act.put,sPa,sPb,sPc]
 case s22 =>
  intro l a w h hun hdep K hK
  obtain ⟨x24,x27,x28,x31,x32,x35,x36,x39,x40,x43,x46,x6,vE,nE,yE,vP,nP,yP,vL,nL,yL,vR,nR,yR,vU,nU,yU,o,ha,HR,H6n,H6,H9,H10n,H10,H13,H14n,H14,H17,H18n,H18,H21,H22n,H22,H25,H28,H29,B1,B2,HM⟩:=h
  obtain ⟨rfl,rfl,rfl⟩:=H22n.out hun
  subst ha
  rw [ha0]
  simp only [zL,List.foldl_cons,List.foldl_nil,Act.put,sPa,sPb,sPc]
  go_simp
  have hM6:=HM.lit0 (j:=4) rfl hbase
  refine hK.out _ _ ?_
  refine ⟨x24,x27,x28,x31,x32,x35,x36,x39,(.slice (some ⟨w.heap.size,0,none⟩) 0 0),x43,x46,x6,vE,nE,yE,vP,nP,yP,vL,nL,yL,vR,nR,yR,(.slice (some ⟨w.heap.size,0,none⟩) 0 0),0,[],o,?fa22,fun j hj=>zB (HR j hj),Kh (fun h=>H6n.out (zC h)),Kh (fun h h4=>H6.out (zA (by decide) h) (zC h4)),Kh (fun h=>⟨zB (H9.out (zA (by decide) h)).1,(H9.out (zA (by decide) h)).2⟩),Kh (fun h=>H10n.out (zC h)),Kh (fun h h4=>H10.out (zA (by decide) h) (zC h4)),Kh (fun h=>⟨zB (H13.out (zA (by decide) h)).1,(H13.out (zA (by decide) h)).2⟩),Kh (fun h=>H14n.out (zC h)),Kh (fun h h4=>H14.out (zA (by decide) h) (zC h4)),Kh (fun h=>⟨zB (H17.out (zA (by decide) h)).1,(H17.out (zA (by decide) h)).2⟩),Kh (fun h=>H18n.out (zC h)),Kh (fun h h4=>H18.out (zA (by decide) h) (zC h4)),Kh (fun h=>⟨zB (H21.out (zA (by decide) h)).1,(H21.out (zA (by decide) h)).2⟩),Kh (fun h=>yB h),Kh (fun _ _=>⟨w.heap.size,rfl,rfl,rfl,rfl⟩),Kh (fun h=>absurd (H25.out (zA (by decide) h)).1 (by rw [hun];simp)),Kh (fun h=>absurd (H28.out (zA (by decide) h)).2.2.2.2.1 (by rw [hun];simp)),Kh (fun h=>H29.out (zA (by decide) h)),Kh (fun h h9=>zE (B1.out (zA (by decide) h) (zC h9)) (Ga w (.cells #[] 140) none) (by simp)),Kh (fun h=>absurd (B2.out (zA (by decide) h)).2.2.2.2.1 (by rw [hun];simp)),hM6⟩
  case fa22=>rw [ha0];simp only [zL,List.foldl_cons,List.foldl_nil,Act.put,sPa,sPb,sPc]
 case s23 =>
  exact fun l a w h hun=>absurd (uW h 23 (by simp)) (by rw [hun];simp)
 case s24 =>
  exact fun l a w h hun=>absurd (uW h 24 (by simp)) (by rw [hun];simp)
 case s25 =>
  intro l a w h hun hdep K hK
  obtain ⟨x24,x27,x28,x31,x32,x35,x36,x39,x40,x43,x46,x6,vE,nE,yE,vP,nP,yP,vL,nL,yL,vR,nR,yR,vU,nU,yU,o,ha,HR,H6n,H6,H9,H10n,H10,H13,H14n,H14,H17,H18n,H18,H21,H22n,H22,H25,H28,H29,B1,B2,HM⟩:=h
  have DH22:=H22.out (zK (hdep ⟨22,.data⟩ (by simp) rfl))
  obtain ⟨g2,rfl,rfl,rfl,rfl⟩:=DH22 hun
  have hd2:=zK (hdep ⟨22,.data⟩ (by simp) rfl)
  subst ha
  rw [ha0]
  simp only [zL,List.foldl_cons,List.foldl_nil,Act.put,sPa,sPb,sPc]
  refine sY (by simp [Region.wanted]) (.tmp 40) (.tmp 42) 104 rfl eN 4 _ rfl HM rfl rfl rfl rfl (hsU w HM.but) ?g125 (Nat.zero_add _) ?g225 ?g325 hbase ?_
  case g125=>exact hoU
  case g225=>unfold maxLen;omega
  case g325=>omega
  intro sa sc w6 hM6 hg6
  rw [List.nil_append] at hM6
  refine hK.out _ _ ?_
  refine ⟨x24,x27,x28,x31,x32,x35,x36,x39,(.slice (some ⟨g2,0,none⟩) 0 0),(.slice sa u sc),x46,x6,vE,nE,yE,vP,nP,yP,vL,nL,yL,vR,nR,yR,(.slice sa u sc),u,(us),o,?fa25,fun j hj=>zB (HR j hj),Kh (fun h=>H6n.out (zC h)),Kh (fun h h4=>H6.out (zA (by decide) h) (zC h4)),Kh (fun h=>⟨zB (H9.out (zA (by decide) h)).1,(H9.out (zA (by decide) h)).2⟩),Kh (fun h=>H10n.out (zC h)),Kh (fun h h4=>H10.out (zA (by decide) h) (zC h4)),Kh (fun h=>⟨zB (H13.out (zA (by decide) h)).1,(H13.out (zA (by decide) h)).2⟩),Kh (fun h=>H14n.out (zC h)),Kh (fun h h4=>H14.out (zA (by decide) h) (zC h4)),Kh (fun h=>⟨zB (H17.out (zA (by decide) h)).1,(H17.out (zA (by decide) h)).2⟩),Kh (fun h=>H18n.out (zC h)),Kh (fun h h4=>H18.out (zA (by decide) h) (zC h4)),Kh (fun h=>⟨zB (H21.out (zA (by decide) h)).1,(H21.out (zA (by decide) h)).2⟩),Kh (fun h=>absurd (zB hd2) (by rw [h];simp)),Kh (fun _ h4=>yB h4),Kh (fun _=>⟨zB hd2,sa,sc,rfl,rfl,rfl,rfl⟩),Kh (fun h=>absurd (H28.out (zA (by decide) h)).2.2.2.2.2.2.2.2.2.1 (by rw [hun];simp)),Kh (fun h=>H29.out (zA (by decide) h)),Kh (fun h h9=>zE (B1.out (zA (by decide) h) (zC h9)) hg6 (fun e=>HM.not_type (B1.out (zA (by decide) h) (zC h9)) (by simp) 4 _ rfl e)),Kh (fun h=>absurd (B2.out (zA (by decide) h)).2.2.2.2.2.2.2.2.2.1 (by rw [hun];simp)),hM6⟩
  case fa25=>rw [ha0];simp only [zL,List.foldl_cons,List.foldl_nil,Act.put,sPa,sPb,sPc]
 case s26 =>
  exact fun l a w h hun=>absurd (uW h 26 (by simp)) (by rw [hun];simp)
 case s27 =>
  exact fun l a w h hun=>absurd (uW h 27 (by simp)) (by rw [hun];simp)
 case s28 =>
  intro l a w h hun hdep K hK
  obtain ⟨x24,x27,x28,x31,x32,x35,x36,x39,x40,x43,x46,x6,vE,nE,yE,vP,nP,yP,vL,nL,yL,vR,nR,yR,vU,nU,yU,o,ha,HR,H6n,H6,H9,H10n,H10,H13,H14n,H14,H17,H18n,H18,H21,H22n,H22,H25,H28,H29,B1,B2,HM⟩:=h
  have DH9:=H9.out (zK (hdep ⟨9,.data⟩ (by simp) rfl))
  have DH13:=H13.out (zK (hdep ⟨13,.data⟩ (by simp) rfl))
  have DH17:=H17.out (zK (hdep ⟨17,.data⟩ (by simp) rfl))
  have DH21:=H21.out (zK (hdep ⟨21,.data⟩ (by simp) rfl))
  have DH25:=H25.out (zK (hdep ⟨25,.data⟩ (by simp) rfl))
  obtain ⟨hdlE,sE',cE',rfl,rfl,rfl,rfl⟩:=DH9
  have hdaE:=zK (hdep ⟨9,.data⟩ (by simp) rfl)
  obtain ⟨hdlP,sP',cP',rfl,rfl,rfl,rfl⟩:=DH13
  have hdaP:=zK (hdep ⟨13,.data⟩ (by simp) rfl)
  obtain ⟨hdlL,sL',cL',rfl,rfl,rfl,rfl⟩:=DH17
  have hdaL:=zK (hdep ⟨17,.data⟩ (by simp) rfl)
  obtain ⟨hdlR,sR',cR',rfl,rfl,rfl,rfl⟩:=DH21
  have hdaR:=zK (hdep ⟨21,.data⟩ (by simp) rfl)
  obtain ⟨hdlU,sU',cU',rfl,rfl,rfl,rfl⟩:=DH25
  have hdaU:=zK (hdep ⟨25,.data⟩ (by simp) rfl)
  subst ha
  rw [ha0]
  simp only [zL,List.foldl_cons,List.foldl_nil,Act.put,sPa,sPb,sPc]
  go_simp
  refine hK.out _ _ ?_
  refine ⟨x24,(Value.slice sE' m cE'),x28,(Value.slice sP' m cP'),x32,(Value.slice sL' m cL'),x36,(Value.slice sR' 0 cR'),x40,(Value.slice sU' u cU'),(.agg #[.int .i64 n,.bool true,(.slice gA gN gC),(Value.slice sE' m cE'),(Value.slice sP' m cP'),(Value.slice sL' m cL'),(Value.slice sR' 0 cR'),(Value.slice sU' u cU'),.int .i64 0]),x6,(Value.slice sE' m cE'),m,(hsE),(Value.slice sP' m cP'),m,(ints pre),(Value.slice sL' m cL'),m,(ints las),(Value.slice sR' 0 cR'),0,([]),(Value.slice sU' u cU'),u,(us),o,?fa28,fun j hj=>zB (HR j hj),Kh (fun h=>absurd (zB hdlE) (by rw [h];simp)),Kh (fun h h4=>absurd (zB hdaE) (by rw [h4];simp)),Kh (fun _=>⟨zB hdlE,sE',cE',rfl,rfl,rfl,rfl⟩),Kh (fun h=>absurd (zB hdlP) (by rw [h];simp)),Kh (fun h h4=>absurd (zB hdaP) (by rw [h4];simp)),Kh (fun _=>⟨zB hdlP,sP',cP',rfl,rfl,rfl,rfl⟩),Kh (fun h=>absurd (zB hdlL) (by rw [h];simp)),Kh (fun h h4=>absurd (zB hdaL) (by rw [h4];simp)),Kh (fun _=>⟨zB hdlL,sL',cL',rfl,rfl,rfl,rfl⟩),Kh (fun h=>absurd (zB hdlR) (by rw [h];simp)),Kh (fun h h4=>absurd (zB hdaR) (by rw [h4];simp)),Kh (fun _=>⟨zB hdlR,sR',cR',rfl,rfl,rfl,rfl⟩),Kh (fun h=>absurd (zB hdlU) (by rw [h];simp)),Kh (fun h h4=>absurd (zB hdaU) (by rw [h4];simp)),Kh (fun _=>⟨zB hdlU,sU',cU',rfl,rfl,rfl,rfl⟩),Kh (fun _=>⟨zB hdlE,zB hdlP,zB hdlL,zB hdlR,zB hdlU,zB hdaE,zB hdaP,zB hdaL,zB hdaR,zB hdaU,rfl⟩),Kh (fun h=>H29.out (zA (by decide) h)),Kh (fun h h9=>B1.out (zA (by decide) h) (zC h9)),Kh (fun h=>absurd (B2.out (zA (by decide) h)).2.2.2.2.2.2.2.2.2.2.1 (by rw [hun];simp)),HM⟩
  case fa28=>rw [ha0];simp only [zL,List.foldl_cons,List.foldl_nil,Act.put,sPa,sPb,sPc]
 case s29 =>
  intro l a w h hun hdep K hK
  obtain ⟨x24,x27,x28,x31,x32,x35,x36,x39,x40,x43,x46,x6,vE,nE,yE,vP,nP,yP,vL,nL,yL,vR,nR,yR,vU,nU,yU,o,ha,HR,H6n,H6,H9,H10n,H10,H13,H14n,H14,H17,H18n,H18,H21,H22n,H22,H25,H28,H29,B1,B2,HM⟩:=h
  subst ha
  rw [ha0]
  simp only [zL,List.foldl_cons,List.foldl_nil,Act.put,sPa,sPb,sPc]
  go_simp
  refine hK.out _ _ ?_
  refine ⟨x24,x27,x28,x31,x32,x35,x36,x39,x40,x43,x46,(.pointer (some ⟨w.heap.size,0,none⟩)),vE,nE,yE,vP,nP,yP,vL,nL,yL,vR,nR,yR,vU,nU,yU,w.heap.size,?fa29,fun j hj=>zB (HR j hj),Kh (fun h=>H6n.out (zC h)),Kh (fun h h4=>H6.out (zA (by decide) h) (zC h4)),Kh (fun h=>⟨zB (H9.out (zA (by decide) h)).1,(H9.out (zA (by decide) h)).2⟩),Kh (fun h=>H10n.out (zC h)),Kh (fun h h4=>H10.out (zA (by decide) h) (zC h4)),Kh (fun h=>⟨zB (H13.out (zA (by decide) h)).1,(H13.out (zA (by decide) h)).2⟩),Kh (fun h=>H14n.out (zC h)),Kh (fun h h4=>H14.out (zA (by decide) h) (zC h4)),Kh (fun h=>⟨zB (H17.out (zA (by decide) h)).1,(H17.out (zA (by decide) h)).2⟩),Kh (fun h=>H18n.out (zC h)),Kh (fun h h4=>H18.out (zA (by decide) h) (zC h4)),Kh (fun h=>⟨zB (H21.out (zA (by decide) h)).1,(H21.out (zA (by decide) h)).2⟩),Kh (fun h=>H22n.out (zC h)),Kh (fun h h4=>H22.out (zA (by decide) h) (zC h4)),Kh (fun h=>⟨zB (H25.out (zA (by decide) h)).1,(H25.out (zA (by decide) h)).2⟩),Kh (fun h=>⟨zB (H28.out (zA (by decide) h)).1,zB (H28.out (zA (by decide) h)).2.1,zB (H28.out (zA (by decide) h)).2.2.1,zB (H28.out (zA (by decide) h)).2.2.2.1,zB (H28.out (zA (by decide) h)).2.2.2.2.1,zB (H28.out (zA (by decide) h)).2.2.2.2.2.1,zB (H28.out (zA (by decide) h)).2.2.2.2.2.2.1,zB (H28.out (zA (by decide) h)).2.2.2.2.2.2.2.1,zB (H28.out (zA (by decide) h)).2.2.2.2.2.2.2.2.1,zB (H28.out (zA (by decide) h)).2.2.2.2.2.2.2.2.2.1,(H28.out (zA (by decide) h)).2.2.2.2.2.2.2.2.2.2⟩),Kh (fun _=>⟨rfl,HM.but.size⟩),Kh (fun _ _=>heap_alloc_new w _),Kh (fun h=>absurd (B2.out (zA (by decide) h)).2.2.2.2.2.2.2.2.2.2.2.1 (by rw [hun];simp)),(HM.alloc (.cells #[.int .i64 0,.bool false,.slice none 0 0,.slice none 0 0,.slice none 0 0,.slice none 0 0,.slice none 0 0,.slice none 0 0,.int .i64 0] 106)).lits (by simp)⟩
  case fa29=>rw [ha0];simp only [zL,List.foldl_cons,List.foldl_nil,Act.put,sPa,sPb,sPc]
 case s30 =>
  intro l a w h hun hdep K hK
  obtain ⟨x24,x27,x28,x31,x32,x35,x36,x39,x40,x43,x46,x6,vE,nE,yE,vP,nP,yP,vL,nL,yL,vR,nR,yR,vU,nU,yU,o,ha,HR,H6n,H6,H9,H10n,H10,H13,H14n,H14,H17,H18n,H18,H21,H22n,H22,H25,H28,H29,B1,B2,HM⟩:=h
  have DH29:=H29.out (zK (hdep ⟨29,.data⟩ (by simp) rfl))
  have DB1:=B1.out (zK (hdep ⟨29,.data⟩ (by simp) rfl))
  have DH28:=H28.out (zK (hdep ⟨28,.data⟩ (by simp) rfl))
  obtain ⟨rfl,ho⟩:=DH29
  have hb:=DB1 hun
  obtain ⟨i6,i10,i14,i18,i22,i9,i13,i17,i21,i25,rfl⟩:=DH28
  have h28:=zK (hdep ⟨28,.data⟩ (by simp) rfl)
  have h29:=zK (hdep ⟨29,.data⟩ (by simp) rfl)
  obtain ⟨hdlE,sE',cE',rfl,rfl,rfl,rfl⟩:=H9.out i9
  obtain ⟨hdlP,sP',cP',rfl,rfl,rfl,rfl⟩:=H13.out i13
  obtain ⟨hdlL,sL',cL',rfl,rfl,rfl,rfl⟩:=H17.out i17
  obtain ⟨hdlR,sR',cR',rfl,rfl,rfl,rfl⟩:=H21.out i21
  obtain ⟨hdlU,sU',cU',rfl,rfl,rfl,rfl⟩:=H25.out i25
  subst ha
  rw [ha0]
  simp only [zL,List.foldl_cons,List.foldl_nil,Act.put,sPa,sPb,sPc]
  obtain ⟨k0,k1,k2,k3,k4,k5,k6,k7,k8⟩:=zX hb
  have f0:=zD hb 0;have f1:=zD hb 1;have f2:=zD hb 2;have f3:=zD hb 3;have f4:=zD hb 4;have f5:=zD hb 5;have f6:=zD hb 6;have f7:=zD hb 7;have f8:=zD hb 8
  go_simp
  obtain ⟨hs9,hg9⟩:=pY hb (.int .i64 n) (.bool true) (.slice gA gN gC) (Value.slice sE' m cE') (Value.slice sP' m cP') (Value.slice sL' m cL') (Value.slice sR' 0 cR') (Value.slice sU' u cU') (.int .i64 0)
  refine hK.out _ _ ?_
  refine ⟨x24,(Value.slice sE' m cE'),x28,(Value.slice sP' m cP'),x32,(Value.slice sL' m cL'),x36,(Value.slice sR' 0 cR'),x40,(Value.slice sU' u cU'),(.agg #[.int .i64 n,.bool true,(.slice gA gN gC),(Value.slice sE' m cE'),(Value.slice sP' m cP'),(Value.slice sL' m cL'),(Value.slice sR' 0 cR'),(Value.slice sU' u cU'),.int .i64 0]),(.pointer (some ⟨o,0,none⟩)),(Value.slice sE' m cE'),m,(hsE),(Value.slice sP' m cP'),m,(ints pre),(Value.slice sL' m cL'),m,(ints las),(Value.slice sR' 0 cR'),0,([]),(Value.slice sU' u cU'),u,(us),o,?fa30,fun j hj=>zB (HR j hj),Kh (fun h=>absurd (zB hdlE) (by rw [h];simp)),Kh (fun h h4=>absurd (zB i9) (by rw [h4];simp)),Kh (fun _=>⟨zB hdlE,sE',cE',rfl,rfl,rfl,rfl⟩),Kh (fun h=>absurd (zB hdlP) (by rw [h];simp)),Kh (fun h h4=>absurd (zB i13) (by rw [h4];simp)),Kh (fun _=>⟨zB hdlP,sP',cP',rfl,rfl,rfl,rfl⟩),Kh (fun h=>absurd (zB hdlL) (by rw [h];simp)),Kh (fun h h4=>absurd (zB i17) (by rw [h4];simp)),Kh (fun _=>⟨zB hdlL,sL',cL',rfl,rfl,rfl,rfl⟩),Kh (fun h=>absurd (zB hdlR) (by rw [h];simp)),Kh (fun h h4=>absurd (zB i21) (by rw [h4];simp)),Kh (fun _=>⟨zB hdlR,sR',cR',rfl,rfl,rfl,rfl⟩),Kh (fun h=>absurd (zB hdlU) (by rw [h];simp)),Kh (fun h h4=>absurd (zB i25) (by rw [h4];simp)),Kh (fun _=>⟨zB hdlU,sU',cU',rfl,rfl,rfl,rfl⟩),Kh (fun _=>⟨zB i6,zB i10,zB i14,zB i18,zB i22,zB i9,zB i13,zB i17,zB i21,zB i25,rfl⟩),Kh (fun _=>⟨rfl,ho⟩),Kh (fun _ h9=>yB h9),Kh (fun _=>⟨zB i6,zB i10,zB i14,zB i18,zB i22,zB i9,zB i13,zB i17,zB i21,zB i25,zB h28,zB h29,hs9⟩),HM.farNew hg9 ho (HM.not_type hb (by simp))⟩
  case fa30=>rw [ha0];simp only [zL,List.foldl_cons,List.foldl_nil,Act.put,sPa,sPb,sPc]
end Go.Proofs.YtdjhoadoiknaoaaDoor
