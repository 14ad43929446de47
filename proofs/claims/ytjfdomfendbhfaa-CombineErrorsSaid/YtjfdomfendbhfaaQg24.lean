/- Part 24 of the proof. -/
import Derived.Test.YtjfdomfendbhfaaQg23
import Derived.BigRegion
import Derived.Deep.DeepCutAuto
import Derived.Deep.CutBlock
import Derived.Deep.OwnRows
set_option linter.unusedVariables false
set_option linter.unusedSimpArgs false
set_option maxRecDepth 100000
set_option maxHeartbeats 16000000
namespace Go.Proofs.Ytjfdomfendbhfaa
open Go.RowKit
def okP (p:List (List Int)):Prop:=p.length<=100/\∀ u∈p,okW u/\u.length<=8
theorem okW_nil:okW []:=fun x hx=>by simp at hx
theorem genU_cases {kind:Int}{k:Nat}{u:List Int}{p:List (List Int)}(hp:p∈genU kind k u):p=oneB u\/p=preB u\/p=sufB u\/p=facB u\/p=wK u:=by
 unfold genU at hp;rw[List.mem_append]at hp;rcases hp with hp|hp
 ·split at hp
  ·exact .inl (by simpa using hp)
  ·simp at hp
 ·by_cases hu:u=[]
  ·rw[if_pos hu]at hp;simp at hp
  ·rw[if_neg hu,List.mem_append,List.mem_append,List.mem_append]at hp
   rcases hp with hp|hp|hp|hp
   ·split at hp
    ·exact .inr (.inl (by simpa using hp))
    ·simp at hp
   ·split at hp
    ·exact .inr (.inr (.inl (by simpa using hp)))
    ·simp at hp
   ·split at hp
    ·exact .inr (.inr (.inr (.inl (by simpa using hp))))
    ·simp at hp
   ·split at hp
    ·exact .inr (.inr (.inr (.inr (by simpa using hp))))
    ·simp at hp
theorem genU_ok {kind:Int}{k:Nat}{u:List Int}(h:okW u)(h8:u.length<=8){p:List (List Int)}(hp:p∈genU kind k u):okP p:=by
 have hn:okW []/\([]:List Int).length<=8:=⟨okW_nil,by simp⟩;rcases genU_cases hp with rfl|rfl|rfl|rfl|rfl
 ·refine⟨by simp[oneB],fun x hx=>?_⟩
  simp only[oneB,List.mem_singleton]at hx;subst hx;exact⟨h,h8⟩
 ·refine⟨by simp[preB],fun x hx=>?_⟩
  simp only[preB,List.mem_cons,List.not_mem_nil,or_false]at hx;rcases hx with rfl|rfl
  ·exact⟨h,h8⟩
  ·exact hn
 ·refine⟨by simp[sufB],fun x hx=>?_⟩
  simp only[sufB,List.mem_cons,List.not_mem_nil,or_false]at hx;rcases hx with rfl|rfl
  ·exact hn
  ·exact⟨h,h8⟩
 ·refine⟨by simp[facB],fun x hx=>?_⟩
  simp only[facB,List.mem_cons,List.not_mem_nil,or_false]at hx;rcases hx with rfl|rfl|rfl
  ·exact hn
  ·exact⟨h,h8⟩
  ·exact hn
 ·refine⟨by simp[wK];omega,fun x hx=>?_⟩
  simp only[wK,List.mem_append,List.mem_singleton,List.mem_map]at hx;rcases hx with (rfl|⟨c,hc,rfl⟩)|rfl
  ·exact hn
  ·refine⟨fun y hy=>?_,by simp⟩
   simp only[List.mem_singleton]at hy;subst hy;exact h y hc
  ·exact hn
theorem qGP (ws:List (List Int)):∀ (i:Nat) {b:List (List Int)},b∈chB ws i->∀ u∈b,u∈ws
 | 0,b,h=>by
  obtain⟨v,hv,rfl⟩:=List.mem_map.1 h
  intro u hu
  simp only[oneB,List.mem_singleton]at hu
  subst hu;exact hv
 | i+1,b,h=>by
  obtain⟨c,hc,hb⟩:=List.mem_flatMap.1 h
  obtain⟨v,hv,rfl⟩:=List.mem_map.1 hb
  intro u hu
  rcases List.mem_append.1 hu with hu|hu
  ·exact qGP ws i hc u hu
  ·simp only[List.mem_singleton]at hu
   subst hu;exact List.mem_of_mem_drop hv
theorem aV (ws:List (List Int)):∀ (i:Nat) {b:List (List Int)},b∈allC ws i->b.length<=i+1/\∀ u∈b,u∈ws
 | 0,b,h=>by simp[allC]at h
 | i+1,b,h=>by
  rcases List.mem_append.1 h with h|h
  ·exact⟨by have:=(aV ws i h).1;omega,(aV ws i h).2⟩
  ·obtain⟨c,hc,hb⟩:=List.mem_flatMap.1 h
   obtain⟨v,hv,rfl⟩:=List.mem_map.1 hb
   refine⟨by rw[List.length_append,lU i hc];simp,fun u hu=>?_⟩
   rcases List.mem_append.1 hu with hu|hu
   ·exact qGP ws i hc u hu
   ·simp only[List.mem_singleton]at hu
    subst hu;exact hv
theorem refL_ok {kind:Int}{L K M:Nat}(hl:L<=6)(hk:K<=8)(hm:M<=4){p:List (List Int)}(hp:p∈refL kind L K M):okP p:=by
 have hw:∀ u∈xG L K,okW u/\u.length<=8:=fun u hu=>⟨okB hl (n:=K+1) hu,qAB hk hu⟩;rcases List.mem_append.1 hp with hp|hp
 ·obtain⟨u,hu,hp⟩:=List.mem_flatMap.1 hp
  exact genU_ok (hw u hu).1 (hw u hu).2 hp
 ·split at hp
  ·have h:=aV _ _ (List.mem_of_mem_take hp)
   exact⟨by omega,fun u hu=>hw u (h.2 u hu)⟩
  ·simp at hp
theorem ref_sorted {kind:Int}{L K M:Nat}(h1:1<=kind)(h7:kind<=7)(hn:¬ 300<(refL kind L K M).length){ps:List (List (List Int))}(hs:qF ps)(hp:ps.Perm (refL kind L K M)):ps=famP kind L K M:=by
 refine sorted_is hs (fY _ _ _ _) (hp.trans (bW h1 h7 M ?_));by_cases hk:kind=7
 ·refine .inl ?_
  rw[refL,if_pos hk,List.length_append,List.length_take]at hn;omega
 ·exact .inr hk
theorem ref_nodup {kind:Int}{L K M:Nat}(h1:1<=kind)(h7:kind<=7)(hn:¬ 300<(refL kind L K M).length):(refL kind L K M).Nodup:=by
 have hp:(refL kind L K M).Perm (famP kind L K M):=by
  refine bW h1 h7 M ?_;by_cases hk:kind=7
  ·refine .inl ?_
   rw[refL,if_pos hk,List.length_append,List.length_take]at hn;omega
  ·exact .inr hk
 exact hp.nodup_iff.2 (sortP_nodup (fY _ _ _ _))
theorem str_byte (u:List Int)(p:Nat)(h:p<u.length)(h':p<(strOfNums u).size):(strOfNums u)[p]'h'=UInt8.ofNat (u[p].toNat):=by
 have e:(strOfNums u)[p]'h'=(strOfNums u).data.toList[p]'(by rw[strOfNums_data];simpa using h):=by rw[Array.getElem_toList];rfl
 rw[e];simp only[strOfNums_data,List.getElem_map]
theorem str_ascii {u:List Int}(hu:okW u){p:Nat}(h:p<u.length)(h':p<(strOfNums u).size):((strOfNums u)[p]'h').toNat<128:=by
 obtain⟨a,b⟩:=hu _ (List.getElem_mem h);rw[str_byte u p h h',UInt8.toNat_ofNat'];omega
theorem iH {w:World}{B e size n:Nat}{v:Value}{xs:List Value}{k:Nat}{s:ByteArray}{pos:Nat}(h:w.ownsRow B e size v n xs)(hk:w.heap[k]?=some (.stringIter s pos)):some k≠v.ownBlock:=by
 rcases h.2 with ⟨rfl,_⟩|⟨g,cap,cur,rfl,hb,hg,_⟩
 ·simp[Value.ownBlock]
 ·intro e
  simp only[Value.ownBlock,Option.some.injEq]at e;subst e;rw[hk]at hg;cases hg
def FamS (ba b off len sc:Nat)(ws:List (List Int))(w wx:World)(v:Value)(G:List (List (List Int))):Prop :=
 ∃ (n:Nat) (sl:Option Addr) (c:Nat) (svs:List Value),v=.slice sl n c/\LUp 28 ba wx (.slice sl n c) n svs G/\RowT ba 9 wx (.slice (some ⟨b,off,none⟩) len sc) (strs ws)/\w.grownBy wx none/\ba<=wx.heap.size
theorem FamS.shape {ba b off len sc:Nat}{ws:List (List Int)}{w wx:World}{v:Value}{G:List (List (List Int))}(h:FamS ba b off len sc ws w wx v G):∃ n sl c,v=.slice sl n c/\FamS ba b off len sc ws w wx (.slice sl n c) G:=by
 obtain⟨n,sl,c,svs,rfl,h⟩:=h;exact⟨n,sl,c,rfl,n,sl,c,svs,rfl,h⟩
theorem aL {ops:Array Oper}{rest:List Oper}{o:Oper}{a:Act}{Q:Exit->Act->World->Prop}(hgd:o.guard=none)(s x:Operand)(ho:o.op=.call { callee:=.builtin .append,args:=#[s,x],argTypes:=#[22,22] }){ba b off len sc n c q:Nat}{sl:Option Addr}{ws us:List (List Int)}{G:List (List (List Int))}{w wo:World}{cs:Array Value}(hF:FamS ba b off len sc ws w wo (.slice sl n c) G)(hn:G.length<=1700)(hc:cs.toList=strs us)(hq:cs.size=q)(hm:q<=maxLen)(hs:a.eval s=.slice sl n c)(hx:a.eval x=.slice (some ⟨wo.heap.size+1,0,none⟩) 1 1)(hwba:w.heap.size<=ba)(h:∀ sl' c' w3,FamS ba b off len sc ws w w3 (.slice sl' (n+1) c') (G++[us])->wpList Try.prog ops Q rest (a.put o.dst (.slice sl' (n+1) c')) w3):wpList Try.prog ops Q (o::rest) a ((wo.alloc (.cells cs 9)).alloc (.cells #[.slice (some ⟨wo.heap.size,0,none⟩) q q] 28)):=by
 obtain⟨n',sl',c',svs,e,hL,hT,hg,h7⟩:=hF;injection e with e1 e2 e3;subst e1;subst e2;subst e3;have h6:=hL.len;have h4:=hL.own.alloc (.cells cs 9);refine app1 hgd s x _ ho xZ ba _ n svs hs h4 _ (by rw[zJ];exact hx) rfl (by unfold maxLen;omega) (by omega) (by rw[zJ];omega) ?_;intro sl1 c1 wp1 h0 h5 _;obtain⟨h3,h1⟩:=(PatsUp.mk hL.own hL.rows).push hc hq hm h0 h5;have h2:=fun q (e:(Value.slice sl n c).ownBlock=some q)=>(hL.own.lt q e).1;exact h sl1 c1 wp1 ⟨n+1,sl1,c1,_,rfl,LUp.ofPats h3,hT.kept h1 (fun q e=>.inl (h2 q e)),zA hg h1 (fun q e=>by have:=h2 q e;omega),by have:=h1.size;omega⟩
theorem rfam_word {Q:Exit->Act->World->Prop}{v1 v3 v4 v5 v6 v7 v8 v9 v10 v11 v12 v13 v14 v16 v17 v18 v19 v20 v21 v22 v23 v24 v25 v26 v27 v28 v29 v30 v31 v32 v33 v34 v35 v36 v37 v38 v39 v40 v41 v42 v43 v44 v45 v46 v47 v48 v49 v50 v51 v52 v53 v54 v55 v56 v57 v58 v59 v60 v61 v62 v63 v64 v65 v66 v67 v68 v69 v70 v71 v72 v73 v74 v75 v76 v77 v78 v79 v80 v81 v82 v83 v84 v85 v86 v87 v89 v91 v92 v93 v94 v95 v96 v97 v98 v99 v100 v101 v102 v103 v104 v105 v106 v107 v108 v109 v110 v111 v112 v113 v114 v115 v116 v117 v118 v119 v120 v121 v122 v123 v124 v125 v126 v127 v128 v129 v130 v131 v132 v133 v134 v135 v136 v137 v138 v139 v140 v141 v142 v143 v144 v145 v146 v147 v148 v149 v150 v151 v152 v153 v154 v155 v156 v157 v158 v159 v160 v161 v162 v163 v164 v165 v166 v167 v168 v169 v170 v171 v172 v173 v174 v175 v176 v177 v178 v179 v180 v181 v182 v183 v184 v185 v186 v187 v188 v189 v190 v191 v192 v193 v194 v195 v196 v197 v198 v199 v200 v201 v202 v203 v204 v205 v206 v207 v208 v209 v210 v211 v212 v213 v214 v215 v216 v217 v218 v219 v220 v221 v222 v223 v224 v225 v226 v227 v228 v229 v230 v231:Value}{KD:Int}{i b off len sc ba n c j:Nat}{sl:Option Addr}{ws:List (List Int)}{u:List Int}{G0:List (List (List Int))}{w wo:World}(hk1:1<=KD)(hk7:KD<=7)(hk8:i<=8)(hu8:u.length<=8)(hlt':(j:Int)<len)(hc1:len<=sc)(hc3:sc<=9223372036854775807)(hw301:len<=301)(hcell:wo.cell? ⟨b,off+j,none⟩=some (.string (strOfNums u)))(HOU:Hid (okW u))(hl0:G0.length<=1505)(hwba:w.heap.size<=ba)(HF:Hid (FamS ba b off len sc ws w wo (.slice sl n c) G0))(hexit:∀ {sl':Option Addr} {n' c':Nat} {wx:World},FamS ba b off len sc ws w wx (.slice sl' n' c') (G0++genU KD i u)->∀ {z17 z18 z19 z91 z92 z93 z94 z95 z96 z97 z98 z99 z100 z101 z102 z103 z104 z105 z106 z107 z108 z109 z110 z111 z112 z113 z114 z115 z116 z117 z118 z119 z120 z121 z122 z123 z124 z125 z126 z127 z128 z129 z130 z131 z132 z133 z134 z135 z136 z137 z138 z139 z140 z141 z142 z143 z144 z145 z146 z147 z148 z149 z150 z151 z152 z153 z154 z155 z156 z157 z158 z159 z160 z161 z162 z163 z164 z165 z166 z167 z168 z169 z170 z171 z172 z173 z174 z175 z176 z177 z178 z179 z180 z181:Value},Q .normal ⟨((Value.int .i64 KD)::v1::(Value.int .i64 i)::v3::v4::v5::v6::v7::v8::v9::v10::v11::v12::v13::v14::(Value.slice sl' n' c')::v16::z17::z18::z19::v20::v21::v22::v23::v24::v25::v26::v27::v28::v29::v30::v31::v32::v33::v34::v35::v36::v37::v38::v39::v40::v41::v42::v43::v44::v45::v46::v47::v48::v49::v50::v51::v52::v53::v54::v55::v56::v57::v58::v59::v60::v61::v62::v63::v64::v65::v66::v67::v68::v69::v70::v71::v72::v73::v74::v75::v76::v77::v78::v79::v80::v81::v82::v83::v84::v85::v86::v87::(Value.slice (some ⟨b,off,none⟩) len sc)::v89::(Value.int .i64 j)::z91::z92::z93::z94::z95::z96::z97::z98::z99::z100::z101::z102::z103::z104::z105::z106::z107::z108::z109::z110::z111::z112::z113::z114::z115::z116::z117::z118::z119::z120::z121::z122::z123::z124::z125::z126::z127::z128::z129::z130::z131::z132::z133::z134::z135::z136::z137::z138::z139::z140::z141::z142::z143::z144::z145::z146::z147::z148::z149::z150::z151::z152::z153::z154::z155::z156::z157::z158::z159::z160::z161::z162::z163::z164::z165::z166::z167::z168::z169::z170::z171::z172::z173::z174::z175::z176::z177::z178::z179::z180::z181::v182::v183::v184::v185::v186::v187::v188::v189::v190::v191::v192::v193::v194::v195::v196::v197::v198::v199::v200::v201::v202::v203::v204::v205::v206::v207::v208::v209::v210::v211::v212::v213::v214::v215::v216::v217::v218::v219::v220::v221::v222::v223::v224::v225::v226::v227::v228::v229::v230::v231::[]).toArray,[]⟩ wx):Code.wp Try.prog (.block 3 (blk Try.f45 3)) Q ⟨((Value.int .i64 KD)::v1::(Value.int .i64 i)::v3::v4::v5::v6::v7::v8::v9::v10::v11::v12::v13::v14::(Value.slice sl n c)::v16::v17::v18::v19::v20::v21::v22::v23::v24::v25::v26::v27::v28::v29::v30::v31::v32::v33::v34::v35::v36::v37::v38::v39::v40::v41::v42::v43::v44::v45::v46::v47::v48::v49::v50::v51::v52::v53::v54::v55::v56::v57::v58::v59::v60::v61::v62::v63::v64::v65::v66::v67::v68::v69::v70::v71::v72::v73::v74::v75::v76::v77::v78::v79::v80::v81::v82::v83::v84::v85::v86::v87::(Value.slice (some ⟨b,off,none⟩) len sc)::v89::(Value.int .i64 j)::v91::v92::v93::v94::v95::v96::v97::v98::v99::v100::v101::v102::v103::v104::v105::v106::v107::v108::v109::v110::v111::v112::v113::v114::v115::v116::v117::v118::v119::v120::v121::v122::v123::v124::v125::v126::v127::v128::v129::v130::v131::v132::v133::v134::v135::v136::v137::v138::v139::v140::v141::v142::v143::v144::v145::v146::v147::v148::v149::v150::v151::v152::v153::v154::v155::v156::v157::v158::v159::v160::v161::v162::v163::v164::v165::v166::v167::v168::v169::v170::v171::v172::v173::v174::v175::v176::v177::v178::v179::v180::v181::v182::v183::v184::v185::v186::v187::v188::v189::v190::v191::v192::v193::v194::v195::v196::v197::v198::v199::v200::v201::v202::v203::v204::v205::v206::v207::v208::v209::v210::v211::v212::v213::v214::v215::v216::v217::v218::v219::v220::v221::v222::v223::v224::v225::v226::v227::v228::v229::v230::v231::[]).toArray,[]⟩ wo:=by
 have f3:(strOfNums u).size=u.length:=strOfNums_size u;have h9:=qHV u;refine wp_block ?_
 let hB:Exit->Act->World->Prop:=bodyPost Try.prog Try.f45 (fun _ _=>True)
 conv=>arg 2;whnf
 go_upto_region 21 with fail;go_cut [109] (fun v wx=>v=.bool (decide (KD=1\/KD=7\/(KD≠6/\u.length<i)))/\wo=wx)
 case first =>
  rcases (by omega:KD=1\/KD=7\/KD=6\/(¬ KD=1/\¬ KD=7/\¬ KD=6)) with rfl|rfl|rfl|⟨h1,h2,h3⟩;rotate_left 3
  ·have e1:(KD == 1)=false:=by rw[beq_eq_false_iff_ne];exact h1
   have e2:(KD == 7)=false:=by rw[beq_eq_false_iff_ne];exact h2
   have e3:(KD == 6)=false:=by rw[beq_eq_false_iff_ne];exact h3
   have e4:(KD != 6)=true:=by rw[bne,e3];rfl
   have H1:=Kh h1;have H2:=Kh h2;have H3:=Kh h3;clear h1 h2 h3;go_wp2
   go_meet
   exact⟨congrArg Value.bool (by simp[H1.out,H2.out,H3.out]),rfl⟩
  all_goals
   go_wp2
   go_meet
   exact⟨congrArg Value.bool (by simp),rfl⟩
 case rest =>
  obtain⟨rfl,rfl⟩:=hcut
  go_upto_if 109 with fail
  go_cut [15] (fun v wx=>FamS ba b off len sc ws w wx v (G0++if KD=1\/KD=7\/(KD≠6/\u.length<i) then [oneB u] else []))
  case first =>
   by_cases hc:KD=1\/KD=7\/(KD≠6/\u.length<i)
   ·have HC:=Kh hc
    rw[decide_eq_true hc];clear hc;go_wp2_with (at_builtin;refine aL rfl (.tmp 110) (.tmp 114) rfl HF.out (by omega) (us:=oneB u) (cs:=#[.string (strOfNums u)]) (q:=1) rfl rfl (by unfold maxLen;omega) rfl rfl hwba ?_;intro sl' c' w3 H5);go_wp2
    go_meet
    rw[if_pos HC.out];exact H5
   ·have HC:=Kh hc
    rw[decide_eq_false hc];clear hc;go_wp2
    go_meet
    rw[if_neg HC.out,List.append_nil];exact HF.out
  case rest =>
   obtain⟨n,sl,c,rfl,hF⟩:=hcut.shape;have HF:=Kh hF;obtain⟨wo,rfl⟩:∃ wo:World,wo=wc:=⟨_,rfl⟩;clear hcut hF;obtain⟨G1,hG⟩:∃ G,G=G0++if KD=1\/KD=7\/(KD≠6/\u.length<i) then [oneB u] else []:=⟨_,rfl⟩
   rw[<- hG]at HF;have b6:=Kh hG;have f8:G1.length<=1506:=by rw[hG,List.length_append];have:=jA (c:=KD=1\/KD=7\/(KD≠6/\u.length<i)) (oneB u);omega
   clear hG;by_cases he:u=[]
   ·have a6:(strOfNums u).toList.isEmpty=true:=by rw[h9,he];rfl
    have b1:=Kh he;clear he h9;go_wp2;rw[genU,if_pos b1.out,List.append_nil,<- b6.out];exact HF.out
   have a6:(strOfNums u).toList.isEmpty=false:=by rw[h9,List.isEmpty_eq_false_iff];exact he
   have b1:=Kh he;clear he h9;go_upto_region 24 with fail;go_cut [127] (fun v wx=>v=.bool (decide (KD=2\/KD=4\/KD=5))/\wo=wx)
   case first =>
    rcases (by omega:KD=2\/KD=4\/KD=5\/(¬ KD=2/\¬ KD=4/\¬ KD=5)) with rfl|rfl|rfl|⟨h1,h2,h3⟩;rotate_left 3
    ·have e1:(KD == 2)=false:=by rw[beq_eq_false_iff_ne];exact h1
     have e2:(KD == 4)=false:=by rw[beq_eq_false_iff_ne];exact h2
     have e3:(KD == 5)=false:=by rw[beq_eq_false_iff_ne];exact h3
     have e4:(KD != 5)=true:=by rw[bne,e3];rfl
     have H1:=Kh h1;have H2:=Kh h2;have H3:=Kh h3;clear h1 h2 h3;go_wp2
     go_meet
     exact⟨congrArg Value.bool (by simp[H1.out,H2.out,H3.out]),rfl⟩
    all_goals
     go_wp2
     go_meet
     exact⟨congrArg Value.bool (by simp),rfl⟩
   case rest =>
    obtain⟨rfl,rfl⟩:=hcut
    go_upto_if 127 with fail
    go_cut [15] (fun v wx=>FamS ba b off len sc ws w wx v (G1++if KD=2\/KD=4\/KD=5 then [preB u] else []))
    case first =>
     by_cases hc:KD=2\/KD=4\/KD=5
     ·have HC:=Kh hc
      rw[decide_eq_true hc];clear hc;go_wp2_with (at_builtin;refine aL rfl (.tmp 128) (.tmp 132) rfl HF.out (by omega) (us:=preB u) (cs:=#[.string (strOfNums u),.string ⟨#[]⟩]) (q:=2) rfl rfl (by unfold maxLen;omega) rfl rfl hwba ?_;intro sl' c' w3 H5);go_wp2
      go_meet
      rw[if_pos HC.out];exact H5
     ·have HC:=Kh hc
      rw[decide_eq_false hc];clear hc;go_wp2
      go_meet
      rw[if_neg HC.out,List.append_nil];exact HF.out
    case rest =>
     obtain⟨n,sl,c,rfl,hF⟩:=hcut.shape;have HF:=Kh hF;obtain⟨wo,rfl⟩:∃ wo:World,wo=wc:=⟨_,rfl⟩;clear hcut hF;obtain⟨G2,hG⟩:∃ G,G=G1++if KD=2\/KD=4\/KD=5 then [preB u] else []:=⟨_,rfl⟩
     rw[<- hG]at HF;have d2:=Kh hG;have f7:G2.length<=1507:=by rw[hG,List.length_append];have:=jA (c:=KD=2\/KD=4\/KD=5) (preB u);omega
     clear hG;go_upto_region 26 with fail;go_cut [143] (fun v wx=>v=.bool (decide (KD=3\/KD=4\/KD=5))/\wo=wx)
     case first =>
      rcases (by omega:KD=3\/KD=4\/KD=5\/(¬ KD=3/\¬ KD=4/\¬ KD=5)) with rfl|rfl|rfl|⟨h1,h2,h3⟩;rotate_left 3
      ·have e1:(KD == 3)=false:=by rw[beq_eq_false_iff_ne];exact h1
       have e2:(KD == 4)=false:=by rw[beq_eq_false_iff_ne];exact h2
       have e3:(KD == 5)=false:=by rw[beq_eq_false_iff_ne];exact h3
       have e4:(KD != 5)=true:=by rw[bne,e3];rfl
       have H1:=Kh h1;have H2:=Kh h2;have H3:=Kh h3;clear h1 h2 h3;go_wp2
       go_meet
       exact⟨congrArg Value.bool (by simp[H1.out,H2.out,H3.out]),rfl⟩
      all_goals
       go_wp2
       go_meet
       exact⟨congrArg Value.bool (by simp),rfl⟩
     case rest =>
      obtain⟨rfl,rfl⟩:=hcut
      go_upto_if 143 with fail
      go_cut [15] (fun v wx=>FamS ba b off len sc ws w wx v (G2++if KD=3\/KD=4\/KD=5 then [sufB u] else []))
      case first =>
       by_cases hc:KD=3\/KD=4\/KD=5
       ·have HC:=Kh hc
        rw[decide_eq_true hc];clear hc;go_wp2_with (at_builtin;refine aL rfl (.tmp 144) (.tmp 148) rfl HF.out (by omega) (us:=sufB u) (cs:=#[.string ⟨#[]⟩,.string (strOfNums u)]) (q:=2) rfl rfl (by unfold maxLen;omega) rfl rfl hwba ?_;intro sl' c' w3 H5);go_wp2
        go_meet
        rw[if_pos HC.out];exact H5
       ·have HC:=Kh hc
        rw[decide_eq_false hc];clear hc;go_wp2
        go_meet
        rw[if_neg HC.out,List.append_nil];exact HF.out
      case rest =>
       obtain⟨n,sl,c,rfl,hF⟩:=hcut.shape;have HF:=Kh hF;obtain⟨wo,rfl⟩:∃ wo:World,wo=wc:=⟨_,rfl⟩;clear hcut hF;obtain⟨G3,hG⟩:∃ G,G=G2++if KD=3\/KD=4\/KD=5 then [sufB u] else []:=⟨_,rfl⟩
       rw[<- hG]at HF;have d1:=Kh hG;have f6:G3.length<=1508:=by rw[hG,List.length_append];have:=jA (c:=KD=3\/KD=4\/KD=5) (sufB u);omega
       clear hG
       go_upto_if 151 with fail
       go_cut [15] (fun v wx=>FamS ba b off len sc ws w wx v (G3++if KD=5 then [facB u] else []))
       case first =>
        by_cases hc:KD=5
        ·have HC:=Kh hc
         have e5:(KD == 5)=true:=by rw[hc];rfl
         clear hc;go_wp2_with (at_builtin;refine aL rfl (.tmp 152) (.tmp 156) rfl HF.out (by omega) (us:=facB u) (cs:=#[.string ⟨#[]⟩,.string (strOfNums u),.string ⟨#[]⟩]) (q:=3) rfl rfl (by unfold maxLen;omega) rfl rfl hwba ?_;intro sl' c' w3 H5);go_wp2
         go_meet
         rw[if_pos HC.out];exact H5
        ·have HC:=Kh hc
         have e5:(KD == 5)=false:=by rw[beq_eq_false_iff_ne];exact hc
         clear hc;go_wp2
         go_meet
         rw[if_neg HC.out,List.append_nil];exact HF.out
       case rest =>
        obtain⟨n,sl,c,rfl,hF⟩:=hcut.shape;have HF:=Kh hF;obtain⟨wo,rfl⟩:∃ wo:World,wo=wc:=⟨_,rfl⟩;clear hcut hF;obtain⟨G4,hG⟩:∃ G,G=G3++if KD=5 then [facB u] else []:=⟨_,rfl⟩
        rw[<- hG]at HF;have d0:=Kh hG;have f5:G4.length<=1509:=by rw[hG,List.length_append];have:=jA (c:=KD=5) (facB u);omega
        clear hG;by_cases h6:KD=6
        ·have e6:(KD == 6)=true:=by rw[h6];rfl
         have H6:=Kh h6;obtain⟨n',sl',c',svs,e,b3,hT,hg,f9⟩:=HF.out;injection e with e1 e2 e3;subst e1;subst e2;subst e3;have hn:n<=1700:=by have:=b3.len;omega
         have b0:=Kh b3;clear b3 h6;have g0:wo.grownBy (wo.alloc (.cells #[.string ⟨#[]⟩] 9)) none:=Ga _ _ _;have ho:=World.ownsRow_lit (e:=9) (size:=1) wo #[.string ⟨#[]⟩] 1 (Nat.le_refl _) (by unfold maxLen;omega) (by simp)
         have b9:((wo.alloc (.cells #[.string ⟨#[]⟩] 9)).iter (strOfNums u) 0).heap[wo.heap.size+1]?=some (.stringIter (strOfNums u) 0):=by
          have:=World.iter_heap (wo.alloc (.cells #[.string ⟨#[]⟩] 9)) (strOfNums u) 0
          rwa [zJ]at this
         have c8:=Kh (ho.alloc (.stringIter (strOfNums u) 0));have c9:=Kh b9;have d3:=Kh (wL g0 (.stringIter (strOfNums u) 0));clear ho b9 g0;go_wp2
         go_loopg [18] u.length (fun gh v wq=>∃ (p:Nat) (sb:Option Addr) (cb:Nat),gh+p=u.length/\v=.slice sb (1+p) cb/\wq.ownsRow wo.heap.size 9 1 (.slice sb (1+p) cb) (1+p) (strs (uD u p))/\wq.heap[wo.heap.size+1]?=some (.stringIter (strOfNums u) p)/\wo.grownBy wq none)
         case atStart=>exact⟨0,_,_,rfl,rfl,c8.out,c9.out,d3.out⟩
         case round =>
          clear c8 c9 d3;obtain⟨p,sb,cb,c0,rfl,h0,h7,a5⟩:=hrel;obtain⟨wq,rfl⟩:∃ wq:World,wq=wr:=⟨_,rfl⟩;have H7:=Kh c0;clear c0;by_cases hpl:p<u.length
          ·have a1:p<(strOfNums u).size:=by omega
           have a2:∀ ty,(Instr.next (.pointer (some ⟨wo.heap.size+1,0,none⟩)) true ty).run Try.prog wq=_:=fun ty=>Lib.run_next_ascii_at wq (wo.heap.size+1) (strOfNums u) p ty h7 a1 (str_ascii HOU.out hpl a1);have e0:=eC u p hpl;have H4:=Lib.iterAt_heap wq (wo.heap.size+1) (strOfNums u) p (p+1) h7;have b4:=grown_iterAt wq (wo.heap.size+1) (strOfNums u) (p+1);have h5:=h0.kept b4 (.inr (iH h0 h7).symm);have h8:=zA a5 b4 (fun q e=>by have:=Oj e;omega);obtain⟨BY,c7⟩:∃ BY:Nat,BY=((strOfNums u)[p]'a1).toNat:=⟨_,rfl⟩;rw[<- c7]at a2;obtain⟨wi,b7⟩:∃ wi,wq.iterAt (wo.heap.size+1) (strOfNums u) (p+1)=wi:=⟨_,rfl⟩;rw[b7]at a2 H4 h5 h8;have a7:=Kh H4;have d7:(p:Int)+1<=8:=by omega
           have f4:(p:Int)<((strOfNums u).size:Int):=(by omega);have d8:(p:Int)+1<=((strOfNums u).size:Int):=by omega
           clear c7 b7 b4 h0 h7 a5 H4;go_wp2_with (at_builtin;refine app1 rfl (.tmp 166) (.tmp 172) _ rfl uO wo.heap.size _ (1+p) (strs (uD u p)) rfl h5 _ rfl rfl ?c1 ?c2 ?c3 ?_)
           case c1=>unfold maxLen;omega
           case c2=>omega
           case c3=>exact h8.size
           intro sb' cb' w3 h4 H9 _;have c6:=fun q (e:(Value.slice sb (1+p) cb).ownBlock=some q)=>(h5.lt q e).1;have H8:=zA h8 H9 c6;have a4:=zB a7.out H9 (fun e=>iH h5 a7.out e.symm)
           have e1:strs (uD u (p+1))=strs (uD u p)++[.string (strOfNums [u[p]])]:=by
            rw[uD,uD,List.take_succ_eq_append_getElem hpl,List.map_append,<- List.append_assoc,tH];rfl
           have HE:=Kh e1;have f0:=Kh h4;have f2:=Kh a4;clear h5 h8 H9 e0 e1 h4 a4 a2 c6;go_wp2;go_roundg (u.length - (p+1))
           case measure=>have:=H7.out;omega
           case rel=>exact⟨p+1,sb',cb',by have:=H7.out;omega,rfl,by rw[HE.out];exact f0.out,f2.out,H8⟩
          ·obtain⟨ub,a8⟩:∃ ub,ub=uD u p:=⟨_,rfl⟩
           have d6:p=u.length:=by have:=H7.out;omega
           have b2:ub.length=1+p:=by rw[a8];simp[uD];omega
           have a0:wK u=ub++[[]]:=by rw[a8,uD,List.take_of_length_le (by omega)];rfl
           have a1:¬ p<(strOfNums u).size:=(by omega);have d7:p<=8:=by omega
           have a2:∀ ty,(Instr.next (.pointer (some ⟨wo.heap.size+1,0,none⟩)) true ty).run Try.prog wq=_:=fun ty=>Lib.run_next_end_at wq (wo.heap.size+1) (strOfNums u) p ty h7 a1;rw[<- a8]at h0;have e8:=Kh a0;clear a8 b2 a0 d6 h7 hpl;go_wp2_with (at_builtin;refine app1 rfl (.tmp 175) (.tmp 176) _ rfl uO wo.heap.size _ (1+p) (strs ub) rfl h0 _ rfl rfl ?c1 ?c2 ?c3 ?_)
           case c1=>unfold maxLen;omega
           case c2=>omega
           case c3=>exact a5.size
           intro sb' cb' w3 h4 H9 _;have H8:=zA a5 H9 (fun q e=>(h0.lt q e).1);have e3:strs ub++[.string ⟨#[]⟩]=strs (wK u):=by rw[e8.out,tH];rfl
           rw[e3]at h4;have a3:=b0.out.kept H8 (by simp);have d5:=H8.size;clear h0 H9 a5 a2 e3;go_wp2_with (at_builtin;refine app1 rfl (.tmp 174) (.tmp 179) _ rfl xZ ba _ n svs rfl a3.own _ rfl rfl ?c1 ?c2 ?c3 ?_)
           case c1=>unfold maxLen;omega
           case c2=>omega
           case c3=>omega
           intro sl5 c5 w5 H0 c4 _;obtain⟨b8,a9⟩:=b0.out.push (us:=wK u) H8 h4 H0 c4;have b5:=fun q (e:(Value.slice sl n c).ownBlock=some q)=>(b0.out.own.lt q e).1;have e7:=hT.kept a9 (fun q e=>.inl (b5 q e));have d9:=zA hg a9 (fun q e=>by have:=b5 q e;omega);have d4:ba<=w5.heap.size:=by have:=a9.size;omega
           have e9:=Kh b8;clear h4 H0 H8 c4 a9 a3 b8 hT hg b5 b0 d5;go_wp2;exact⟨_,_,_,_,rfl,by rw[genU,if_neg b1.out,if_pos H6.out,<- List.append_assoc,<- List.append_assoc,<- List.append_assoc,<- List.append_assoc,<- b6.out,<- d2.out,<- d1.out,<- d0.out];exact e9.out,e7,d9,d4⟩
        ·have e6:(KD == 6)=false:=by rw[beq_eq_false_iff_ne];exact h6
         have f1:=Kh h6;clear h6;go_wp2;rw[genU,if_neg b1.out,if_neg f1.out,List.append_nil,<- List.append_assoc,<- List.append_assoc,<- List.append_assoc,<- b6.out,<- d2.out,<- d1.out,<- d0.out];exact HF.out
theorem qCJ (KD:Int)(L K M:Nat)(w:World)(ho:tI KD L K M=true):Calls Try.prog 45 #[.int .i64 KD,.int .i64 L,.int .i64 K,.int .i64 M] w (vE w (famE KD L K M) (famL KD L K M)):=by
 have i1:=Kh (yK w (L:Int));have HO:=Kh ho;simp only[tI,decide_eq_true_eq]at ho;obtain⟨b7,b6,m8,m7,hk,n0,hm⟩:=ho;have q9:M<=4:=by split at hm<;>omega
 have c8:1<=L:=by omega
 have c7:L<=6:=by omega
 have c9:K<=8:=by omega
 rw[decide_eq_true (show 1<=(L:Int)/\(L:Int)<=6 by omega)]at i1;have g7:=Kh (qFL (kind:=KD) (letters:=L) (k:=K) (m:=M) b7 b6 c8 (fun _=>by omega));have l4:=Kh (ref_len (kind:=KD) (letters:=L) (k:=K) b7 b6 M);have p3:=Kh (famP_ge (kind:=KD) (L:=L) (K:=K) M);have HM:=Kh hm;obtain⟨lo,f9⟩:∃ lo:Int,lo=if KD=1 then 0 else 1:=⟨_,rfl⟩
 rw[<- f9]at hk;have i4:=Kh f9;have g6:Hid (∀ i,i<=K->(upTo L (i+1)).length<=20000000):=Kh (fun i hi=>by have:=xR L c7 (i+1) (by omega);omega);have k5:KD=1\/KD=2\/KD=3\/KD=4\/KD=5\/KD=6\/KD=7:=by omega
 clear hm f9;go_enter Try.func45,Try.ntmps45
 go_upto_if 23 with fail
 go_cut [10] (fun v10 wx=>v10=.int .i64 lo/\w=wx)
 case first =>
  by_cases h1:KD=1
  ·have e1:(KD == 1)=true:=by rw[h1];rfl
   have i5:Hid (lo=0):=Kh (by rw[i4.out,if_pos h1]);clear h1;go_wp2
   go_meet
   exact⟨by rw[i5.out],rfl⟩
  ·have e1:(KD == 1)=false:=by rw[beq_eq_false_iff_ne];exact h1
   have i5:Hid (lo=1):=Kh (by rw[i4.out,if_neg h1]);clear h1;go_wp2
   go_meet
   exact⟨by rw[i5.out],rfl⟩
 case rest =>
  obtain⟨rfl,rfl⟩:=hcut;go_upto_region 4 with fail;go_cut [63] (fun v63 wx=>v63=.bool false/\w=wx)
  case first =>
   as_aux_lemma =>
    by_cases h7:KD=7
    ·have e7:(KD == 7)=true:=by rw[h7];rfl
     have e8:(KD != 7)=false:=by rw[h7];rfl
     have m6:(M:Int)<=4:=by omega
     clear h7;go_wp2_with fail;refine i1.out.mono ?_;rintro e w ⟨rfl,rfl⟩;go_wp2
     go_meet
     exact⟨congrArg Value.bool (by simp only[Bool.or_eq_false_iff,decide_eq_false_iff_not];omega),rfl⟩
    ·have e7:(KD == 7)=false:=by rw[beq_eq_false_iff_ne];exact h7
     have e8:(KD != 7)=true:=by rw[bne,e7];rfl
     have j7:(M:Int)=0:=by have:=HM.out;rwa [if_neg h7]at this
     have m6:((M:Int) != 0)=false:=by rw[j7];rfl
     clear h7 j7;go_wp2_with fail;refine i1.out.mono ?_;rintro e w ⟨rfl,rfl⟩;go_wp2
     go_meet
     exact⟨congrArg Value.bool (by simp only[Bool.or_eq_false_iff,decide_eq_false_iff_not];omega),rfl⟩
  case rest =>
   obtain⟨rfl,rfl⟩:=hcut;by_cases hsix:KD=6/\8<(K:Int)+2
   ·have H3:=Kh (aM HO.out (.inl hsix))
    obtain⟨h6,o1⟩:=hsix;have e6:(KD == 6)=true:=by rw[h6];rfl
    clear h6;go_wp2;refine bodyPost_ret (v:=.tuple #[.slice none 0 0,.int .i64 3]) (by simp[results,Try.results45,go_sem]) rfl ?_;rw[H3.out.1,H3.out.2];exact vE.nil (zL _ _)
   have o4:=Kh hsix;go_upto_region 6 with fail;go_cut [70] (fun v70 wx=>v70=.bool false/\w=wx)
   case first =>
    by_cases h6:KD=6
    ·have e6:(KD == 6)=true:=by rw[h6];rfl
     have o1:¬ 8<(K:Int)+2:=fun h=>hsix ⟨h6,h⟩;clear h6 hsix;go_wp2
     go_meet
     exact⟨rfl,rfl⟩
    ·have e6:(KD == 6)=false:=by rw[beq_eq_false_iff_ne];exact h6
     clear h6 hsix;go_wp2
     go_meet
     exact⟨rfl,rfl⟩
   case rest =>
    obtain⟨rfl,rfl⟩:=hcut;clear hsix
    as_aux_lemma =>
     go_wp2
     go_loopg [11,12,13] K (fun gh vc vi vp wr=>∃ i:Nat,gh+i=K/\vc=.int .i64 (((upTo L (i+1)).length:Nat):Int)/\vi=.int .i64 (i:Int)/\vp=.int .i64 ((L ^ i:Nat):Int)/\w=wr)
     case atStart=>exact⟨0,rfl,by rw[xK,List.length_append,vN];simp[upTo],rfl,rfl,rfl⟩
     case round =>
      obtain⟨i,b8,rfl,rfl,rfl,rfl⟩:=hrel;have H1:=Kh b8;clear b8;have k8:=g6.out i (by have:=H1.out;omega);by_cases hlt:i<K
      ·have b3:(i:Int)<(K:Int):=by omega
       have k7:=g6.out (i+1) (by omega);have e0:=upTo_len_step L i;rw[e0]at k7;have g8:=Kh e0;obtain⟨CN,d4⟩:∃ CN,CN=(upTo L (i+1)).length:=⟨_,rfl⟩;obtain⟨PW,g5⟩:∃ PW,PW=L ^ i:=⟨_,rfl⟩;obtain⟨P2,b9⟩:∃ P2,P2=L ^ i * L:=⟨_,rfl⟩;have m5:(PW:Int) * (L:Int)=(P2:Int):=by rw[b9,g5];push_cast;rfl
       have d6:Hid ((upTo L (i+1+1)).length=CN+P2/\L ^ (i+1)=P2):=Kh ⟨by rw[g8.out,d4,b9],by rw[b9,Nat.pow_succ]⟩;rw[<- b9,<- d4]at k7;rw[<- d4,<- g5];clear e0 d4 g5 b9 k8;go_wp2;go_roundg (K - (i+1))
       case measure=>have:=H1.out;omega
       case rel=>exact⟨i+1,by have:=H1.out;omega,by rw[d6.out.1];go_num,by go_num,by rw[d6.out.2],rfl⟩
      ·obtain rfl:i=K:=by have:=H1.out;omega
       clear hlt g6;obtain⟨ws,H2⟩:∃ ws,ws=xG L i:=⟨_,rfl⟩;have o2:=Kh H2;have c6:upTo L (i+1)=ws:=H2.symm;rw[c6]at k8 ⊢;have i6:Hid (ws.length<=(famP KD L i M).length+1):=Kh (by rw[H2];exact p3.out);have q0:1<=ws.length:=by rw[H2];exact pW c8
       have p7:Hid (1<=i->2<=ws.length):=Kh (fun h=>by rw[H2];exact mD c8 h);have l2:Hid (∀ r (h:r<ws.length),(ws[r]=[] ↔ r=0)):=Kh (by subst H2;exact fun r h=>words_first h);have o3:Hid (∀ u∈ws,u.length<=8):=Kh (by subst H2;exact fun u hu=>qAB c9 hu);have o8:Hid (∀ u∈ws,okW u):=Kh (by subst H2;exact fun u hu=>okB c7 (n:=i+1) hu);have l3:Hid (ws.length<=301->Calls Try.prog 76 #[.int .i64 L,.int .i64 i] w (eZ w ws)):=Kh (fun h=>by rw[<- c6];exact upto_any L i w c8 c7 c9 (by rw[c6];omega));clear H2 c6;by_cases hbig:300<(ws.length:Int) - 1
       ·have H3:=Kh (aM HO.out (.inr (g7.out.2 (by have:=i6.out;omega))))
        go_wp2;refine bodyPost_ret (v:=.tuple #[.slice none 0 0,.int .i64 3]) (by simp[results,Try.results45,go_sem]) rfl ?_;rw[H3.out.1,H3.out.2];exact vE.nil (zL _ _)
       have c1:=Kh (l3.out (by omega));clear l3;go_wp2_with fail;refine c1.out.mono ?_;rintro e w1 ⟨sa,sc,rfl,H5,g1⟩;obtain⟨b,off,rfl,n8,k6⟩:=wS H5 (by omega);have n7:sc<=9223372036854775807:=by unfold maxLen at k6;omega
       have H9:ws.length<=301:=by omega
       clear c1 k6 hbig;obtain⟨ba,g3⟩:∃ ba,ba=w1.heap.size:=⟨_,rfl⟩;rw[<- g3]at H5;have a6:ba<=w1.heap.size:=by omega
       have d8:w.heap.size<=ba:=by rw[g3];exact g1.size
       clear g3;go_wp2
       go_loopw [15,90] (fun v iv wr=>∃ (j n:Nat) (sl:Option Addr) (c:Nat) (svs:List Value),iv=.int .i64 (j:Int)/\j<=ws.length/\v=.slice sl n c /\
         LUp 28 ba wr (.slice sl n c) n svs (genL KD i (ws.take j))/\RowT ba 9 wr (.slice (some ⟨b,off,none⟩) ws.length sc) (strs ws)/\w.grownBy wr none/\ba<=wr.heap.size)
        (fun _ iv _=>ws.length - (intOf iv).toNat)
       case atStart=>exact⟨0,0,none,0,[],rfl,Nat.zero_le _,rfl,by simpa [genL] using LUp.nil (by decide) _ _,H5,g1,a6⟩
       case round =>
        clear H5 g1 a6;obtain⟨j,n,sl,c,svs,rfl,hj,rfl,h3,hT,hg,a6⟩:=hrel;obtain⟨wo,rfl⟩:∃ wo:World,wo=wr:=⟨_,rfl⟩
        have hn:n<=1600:=by
         have h1:=h3.len;have h2:=aK KD i (ws.take j);rw[List.length_take]at h2;omega
        have h0:=Kh h3;clear h3;by_cases hlt:j<ws.length
        ·have b3:(j:Int)<ws.length:=by omega
         have h9:=xJ hT hlt;have i8:=o3.out _ (List.getElem_mem hlt);have e4:=genL_snoc KD i hlt;obtain⟨u,d9⟩:∃ u,u=ws[j]:=⟨_,rfl⟩;rw[<- d9]at h9 i8 e4;have o5:=Kh e4;have o9:Hid (okW u):=Kh (o8.out u (by rw[d9];exact List.getElem_mem hlt));clear d9 e4
         go_upto_block 3 with fail
         refine rfam_word b7 b6 c9 i8 b3 n8 n7 H9 h9 o9 (G0:=genL KD i (ws.take j)) (by have:=aK KD i (ws.take j);rw[List.length_take]at this;omega) d8 (Kh ⟨n,sl,c,svs,rfl,h0.out,hT,hg,a6⟩) ?_;intro sl' n' c' wx hF
         intros
         obtain⟨n3,sl3,c3,svs3,e,b4,n9,d0,g2⟩:=hF;injection e with e1 e2 e3;subst e1;subst e2;subst e3;have i3:=Kh b4;clear b4 hT hg a6 h9;go_wp2;go_roundw
         case rel=>exact⟨j+1,_,_,_,svs3,by go_num,by omega,rfl,by rw[o5.out];exact i3.out,n9,d0,g2⟩
         case measure=>simp[intOf];omega
        ·obtain rfl:j=ws.length:=by omega
         rw[List.take_length]at h0;have a8:Hid (refL KD L i M=genL KD i ws++if KD=7 then (allC ws (M+1)).take 301 else []):=Kh (by rw[refL,o2.out]);clear hlt hj
         go_upto_if 183 with fail
         go_cut [15] (fun v wx=>∃ (n:Nat) (sl:Option Addr) (c:Nat) (svs:List Value),v=.slice sl n c/\n<=2000/\LUp 28 ba wx (.slice sl n c) n svs (refL KD L i M)/\w.grownBy wx none)
         case first =>
          by_cases h7:KD=7
          ·have e7:(KD == 7)=true:=by rw[h7];rfl
           have r0:1<=i:=by have:=i4.out;rw[if_neg (by omega)]at this;omega
           have H7:=Kh h7;clear h7;have m0:=Kh (rchains_any ba wo (.slice (some ⟨b,off,none⟩) ws.length sc) ws M a6 hT (by omega) (p7.out (by omega)) H9 ((l2.out 0 (by omega)).2 rfl) (fun r h h1 e=>by have:=(l2.out r h).1 e;omega));obtain⟨CH,d5⟩:∃ CH,CH=(allC ws (M+1)).take 301:=⟨_,rfl⟩;rw[<- d5]at m0;have q8:CH.length<=301:=by rw[d5,List.length_take];omega
           have p6:=Kh d5;clear d5;go_wp2_with fail;refine m0.out.mono ?_;rintro e w2 ⟨sb,cb,svb,rfl,i9,H4,d3⟩;have b5:=h0.out.kept d3 (by simp);have q3:=H4.1;have c4:Hid (∀ x∈svb,x.oneCell'=true):=Kh H4.one;have m1:=d3.size;go_wp2_with (at_builtin;refine appR rfl (.tmp 184) (.tmp 187) _ rfl xZ ba _ n svs rfl b5.own _ svb rfl ⟨_,i9.row⟩ c4.out (n+CH.length) ?a1 ?a2 ?a3 ?a4 ?_)
           case a1=>omega
           case a2=>unfold maxLen;omega
           case a3=>omega
           case a4=>omega
           intro sl2 c2 w3 a0 d0;obtain⟨j3,k4⟩:=h0.out.cat d3 H4 a0 d0;have k3:=zA hg k4 (fun q e=>by have:=(h0.out.own.lt q e).1;omega);have c5:=Kh j3;clear b5 i9 H4 a0 d0 k4 j3 hT hg d3 h0 a6 m1 c4;have h0:=c5;have hg:=k3;clear c5 k3;go_wp2
           go_meet
           exact⟨n+CH.length,sl2,c2,svs++svb,rfl,by omega,by rw[a8.out,if_pos H7.out,<- p6.out];exact h0.out,hg⟩
          ·have e7:(KD == 7)=false:=by rw[beq_eq_false_iff_ne];exact h7
           have H7:=Kh h7;clear h7;go_wp2
           go_meet
           exact⟨n,sl,c,svs,rfl,by omega,by rw[a8.out,if_neg H7.out,List.append_nil];exact h0.out,hg⟩
         case rest =>
          clear h0 hT hg a6 a8;obtain⟨m,sl2,c2,svs,rfl,q2,h3,hg⟩:=hcut;obtain⟨wo,rfl⟩:∃ wo:World,wo=wc:=⟨_,rfl⟩;have h0:=Kh h3;clear h3
          as_aux_lemma =>
           obtain⟨RL,g4⟩:∃ RL,RL=refL KD L i M:=⟨_,rfl⟩;have h4:=Kh g4;rw[<- g4]at h0;clear g4;have j4:=h0.out.len;by_cases hlim:300<m
           ·have a5:(300:Int)<(m:Int):=by omega
            have H3:=Kh (aM HO.out (.inr (g7.out.2 (l4.out.1 (by rw[<- h4.out];omega)))));clear hlim;go_wp2;refine bodyPost_ret (v:=.tuple #[.slice none 0 0,.int .i64 3]) (by simp[results,Try.results45,go_sem]) rfl ?_;rw[H3.out.1,H3.out.2];exact vE.nil hg
           have a5:¬ (300:Int)<(m:Int):=(by omega);have l9:=Kh (famE_small HO.out (o4.out) (fun h=>by have:=l4.out.2 (g7.out.1 h);rw[<- h4.out]at this;omega));have l7:Hid RL.Nodup:=Kh (by rw[h4.out];exact ref_nodup b7 b6 (by rw[<- h4.out];omega));have i7:Hid (∀ ps,qF ps->ps.Perm RL->ps=famP KD L i M):=Kh (fun ps h1 h2=>ref_sorted b7 b6 (by rw[<- h4.out];omega) h1 (by rw[<- h4.out];exact h2));have l6:Hid (∀ p∈RL,okP p):=Kh (fun p hp=>by rw[h4.out]at hp;exact refL_ok c7 c9 (by omega) hp);have c0:m<=300:=by omega
           have p0:=Kh j4;clear hlim j4 h4;obtain⟨NL,l1⟩:∃ NL,NL=m:=⟨_,rfl⟩;rw[<- l1]at h0 p0 c0 a5 ⊢;clear l1;obtain⟨SL,k9⟩:∃ SL,SL=sl2:=⟨_,rfl⟩;rw[<- k9]at h0 ⊢;clear k9;obtain⟨SC,l0⟩:∃ SC,SC=c2:=⟨_,rfl⟩;rw[<- l0]at h0 ⊢;clear l0;go_wp2
           go_loopg [194] NL (fun gh iv wx=>∃ (q:Nat) (sv:List Value) (ps:List (List (List Int))),gh+q=NL/\iv=.int .i64 (q:Int)/\LUp 28 ba wx (.slice SL NL SC) NL sv ps/\Hid (qF (ps.take q)/\ps.Perm RL)/\w.grownBy wx none)
           case atStart=>exact⟨0,_,_,rfl,rfl,h0.out,Kh ⟨by simp[qF],List.Perm.refl _⟩,hg⟩
           case round =>
            clear h0 hg;obtain⟨q,sv,ps,b8,rfl,h3,b0,hg⟩:=hrel;obtain⟨wa,rfl⟩:∃ wa:World,wa=wr:=⟨_,rfl⟩;have H1:=Kh b8;have h0:=Kh h3;clear b8;by_cases hq:q<NL
            ·have q1:(q:Int)<(NL:Int):=by omega
             rcases id h3.own.2 with ⟨_,e2⟩|⟨g,cap,cur,e1,hgb,_,hnc,hcm,_,_⟩
             ·omega
             simp only[Value.slice.injEq]at e1;obtain⟨rfl,_,rfl⟩:=e1;have o0:SC<=9223372036854775807:=by unfold maxLen at hcm;omega
             have p9:w.heap.size<=g:=by omega
             have l8:Hid (InsI RL ps q q):=Kh (ins_start b0.out.1 (by have:=h3.len;omega) b0.out.2);clear h3 b0 hcm;go_wp2
             go_loopg [21] q (fun gh jv wx=>∃ (j:Nat) (sv:List Value) (ps:List (List (List Int))),j=gh/\j<=q/\jv=.int .i64 (j:Int)/\LUp 28 ba wx (.slice (some ⟨g,0,none⟩) NL SC) NL sv ps/\Hid (InsI RL ps q j)/\w.grownBy wx none)
             case atStart=>exact⟨q,sv,ps,rfl,Nat.le_refl _,rfl,h0.out,l8,hg⟩
             case round =>
              clear h0 l8 hg;obtain⟨j,sv,ps,rfl,q5,rfl,h3,b1,hg⟩:=hrel;obtain⟨wb,rfl⟩:∃ wb:World,wb=wr:=⟨_,rfl⟩;by_cases hj0:j=0
              ·subst hj0
               have h0:=Kh h3;clear h3;go_wp2
               go_quiet (fail)
               go_wp2;go_roundg (NL - (q+1))
               case measure=>have:=H1.out;omega
               case rel=>exact⟨q+1,sv,ps,by have:=H1.out;omega,by go_num,h0.out.kept (zN wb _ none) (by simp),Kh (qEH b1.out l7.out (.inl rfl)),zA hg (zN wb _ none) (by simp)⟩
              ·obtain⟨k,j9⟩:∃ k,j=k+1:=⟨j - 1,by omega⟩
               obtain⟨a1,d1,p1,f0,f6,H8,j1⟩:=h3.at (i:=k) (by omega);obtain⟨a2,d2,p2,e5,f5,H6,j0⟩:=h3.at (i:=j) (by omega);obtain⟨A0,x0,B0,C0,f3,_,_,_,_,h5⟩:=b1.out;have f8:=l6.out p1 (h5.mem_iff.1 (List.mem_of_getElem? f6));have f7:=l6.out p2 (h5.mem_iff.1 (List.mem_of_getElem? f5));clear f3 h5;have h8:wb.grownBy wb.drew none:=zO wb none;have a9:=Kh (less_any wb.heap.size wb.heap.size wb.drew (.slice a2 p2.length d2) (.slice a1 p1.length d1) p2 p1 (j0.kept h8 (by simp)).row (j1.kept h8 (by simp)).row f7.2 f8.2 f7.1 f8.1);have h0:=Kh h3;have n5:(0:Int)<(j:Int):=(by omega);have g0:0<j:=(by omega);have q7:decide ((0:Int)<(j:Int))=true:=decide_eq_true n5;have q6:decide (0<j)=true:=decide_eq_true g0;have q4:(j:Int)<(NL:Int):=(by omega);have m9:(k:Int)<(NL:Int):=(by omega);have p8:IntKind.i64.wrap ((j:Int) - 1)=(k:Int):=by rw[IntWalk.i64_in _ (by omega)];omega
               have m2:IntKind.i64.wrap (k:Int)=(k:Int):=IntWalk.i64_in _ (by omega);have n4:(0:Int)<=(k:Int):=by omega
               have j8:(k:Int)<=300:=by omega
               have m4:(j:Int) - 1=(k:Int):=by omega
               have b2:=Kh j9;have d7:Hid (∀ W,wb.drew.grownBy W none->W.cell? ⟨g,j,none⟩=some (.slice a2 p2.length d2)/\W.cell? ⟨g,k,none⟩=some (.slice a1 p1.length d1)):=Kh (fun W hW=>⟨uC (uC H6 h8) hW,uC (uC H8 h8) hW⟩);obtain⟨n2,j5⟩:∃ n2,n2=p2.length:=⟨_,rfl⟩;obtain⟨n1,j6⟩:∃ n1,n1=p1.length:=⟨_,rfl⟩;rw[<- j6]at f0 H8 a9 d7;rw[<- j5]at e5 H6 a9 d7;have o6:=Kh f0;have d6:=Kh e5;have i0:=Kh f6;have g9:=Kh f5;clear h3 j1 j0 f8 f7 f0 e5 f6 f5 j6 j5 j9 hj0;cases hle:wY p2 p1 with
               | false =>
                rw[hle]at a9;have p5:=Kh (qEH b1.out l7.out (.inr ⟨k,p1,p2,b2.out,i0.out,by rw[<- b2.out];exact g9.out,hle⟩));clear hle b1;go_wp2
                go_region_held3 (fun W=>W.cell? ⟨g,j,none⟩=some (.slice a2 n2 d2)/\W.cell? ⟨g,k,none⟩=some (.slice a1 n1 d1))
                 (first|go_keep|exact d7.out _ H0|fail)
                 (first|(go_at_call 78;(with_reducible refine a9.out.mono ?_);rintro e w7 ⟨rfl,H0⟩)|fail)
                go_wp2;go_roundg (NL - (q+1))
                case measure=>have:=H1.out;omega
                case rel=>exact⟨q+1,sv,ps,by have:=H1.out;omega,by go_num,(h0.out.kept h8 (by simp)).kept H0 (by simp),p5,zA (zA hg h8 (by simp)) H0 (by simp)⟩
               | true =>
                rw[hle]at a9;have g8:=Kh (ins_step (by rw[<- b2.out];exact b1.out) i0.out (by rw[<- b2.out];exact g9.out) hle);clear hle b1;go_wp2
                go_region_held3 (fun W=>W.cell? ⟨g,j,none⟩=some (.slice a2 n2 d2)/\W.cell? ⟨g,k,none⟩=some (.slice a1 n1 d1))
                 (first|go_keep|exact d7.out _ H0|fail)
                 (first|(go_at_call 78;(with_reducible refine a9.out.mono ?_);rintro e w7 ⟨rfl,H0⟩)|fail)
                have a7:=(h0.out.kept h8 (by simp)).kept H0 (by simp);have k0:=zA (zA hg h8 (by simp)) H0 (by simp);have k1:=uC (uC H8 h8) H0;have k2:=uC (uC H6 h8) H0;rcases id a7.own.2 with ⟨e1,_⟩|⟨g',cap,cur,e1,_,hgk,_,_,_,_⟩
                ·simp at e1
                simp only[Value.slice.injEq,Option.some.injEq,Addr.mk.injEq,and_true]at e1;obtain⟨rfl,_,rfl⟩:=e1;have f1:=frozen_of_row w7 g k _ _ hgk;have f2:=frozen_of_row w7 g j _ _ hgk;have i2:=Kh a7;have p4:=Kh k0;have r1:=Kh hgk;clear a7 k0 hgk hg h8 H0 H8 H6 h0 a9;go_wp2
                go_region
                all_goals
                 go_wp2;go_roundg k
                 case measure=>have:=b2.out;omega
                 case rel =>
                  have e9:=b2.out;subst e9;obtain⟨m3,n6⟩:=i2.out.drewN.swap o6.out d6.out i0.out g9.out (W:=_) (by first|exact .inl rfl|exact .inr rfl);exact⟨k,_,_,rfl,by omega,by go_num,m3,g8,zA (zA p4.out (zO w7 none) (by simp)) n6 (fun x e=>by have:g=x:=Oj e;omega)⟩
            ·obtain rfl:q=NL:=by have:=H1.out;omega
             have f4:=h3.len;have j2:ps=famP KD L i M:=i7.out ps (by have:=b0.out.1;rwa [f4,List.take_length]at this) b0.out.2;have o7:=Kh j2;have l5:=Kh f4;clear j2 f4 h3 b0;go_wp2;refine bodyPost_ret (v:=.tuple #[.slice SL q SC,.int .i64 0]) (by simp[results,Try.results45,go_sem]) rfl ?_;rw[l9.out.1,l9.out.2,<- o7.out];exact⟨SL,SC,sv,by rw[<- l5.out],by rw[<- l5.out];exact RowT.of_owns h0.out.own,h0.out.rows,hg⟩
theorem gU (kind letters k m:Int)(w:World):Calls Try.prog 45 #[.int .i64 kind,.int .i64 letters,.int .i64 k,.int .i64 m] w (vE w (famE kind letters k m) (famL kind letters k m)):=by
 cases ho:tI kind letters k m with
 | false =>
  have e1:famE kind letters k m=1:=by rw[famE,if_pos ho]
  have e2:famL kind letters k m=[]:=by rw[famL,e1];rfl
  rw[e1,e2];exact rfam_err _ _ _ _ _ ho
 | true =>
  have h0:=ho;simp only[tI,decide_eq_true_eq]at ho;obtain⟨h6,h5,h3,h2,hk,h4,hm⟩:=ho;have h1:0<=m/\m<=4:=by split at hm<;>omega
  have h7:0<=k:=by split at hk<;>omega
  obtain⟨L,rfl⟩:∃ L:Nat,letters=(L:Int):=⟨letters.toNat,by omega⟩;obtain⟨K,rfl⟩:∃ K:Nat,k=(K:Int):=⟨k.toNat,by omega⟩;obtain⟨M,rfl⟩:∃ M:Nat,m=(M:Int):=⟨m.toNat,by omega⟩;exact qCJ kind L K M w h0
open Go.Maps
def fX (l:List (List (List Int))):Bool:=decide (l.length<=300) && l.all fun p=>decide ((p.map List.length).sum<=8/\p.length<=8)
theorem sum_get {p:List (List Int)}:∀ u∈p,u.length<=(p.map List.length).sum:=by
 induction p with
 | nil=>intro u hu;simp at hu
 | cons a p ih =>
  intro u hu;rw[List.map_cons,List.sum_cons];rcases List.mem_cons.1 hu with rfl|hu
  ·omega
  ·have:=ih u hu;omega
def FamD (w:World)(v:Value)(L:List (List (List Int))):Prop:=fX L=true/\∃ svs,RowT w.heap.size 28 w v svs/\wH w.heap.size 9 strs w svs L/\∃ sa sc,v=.slice sa L.length sc
theorem FamD.pats {w:World}{v:Value}{L:List (List (List Int))}(h:FamD w v L):PatsIn w.heap.size w v (famB L):=by
 obtain⟨h1,svs,h2,h3,h4⟩:=h;refine lM h2 h3 (fun p hp u hu=>?_);simp only[fX,Bool.and_eq_true,decide_eq_true_eq,List.all_eq_true]at h1;have:=(h1.2 p hp).1;have:=sum_get u hu;omega
theorem famB_total {p:List (List Int)}:sG (p.map strOfNums)=(p.map List.length).sum:=by
 unfold sG
 induction p with
 | nil=>rfl
 | cons a p ih =>
  rw[List.map_cons,List.map_cons,List.sum_cons];simp only[List.map_cons,List.sum_cons,List.foldl_cons]at ih ⊢
  first|(rw[<- ih,strOfNums_size])|(simp[strOfNums_size,ih])
theorem rZ {L:List (List (List Int))}(h:fX L=true):(famB L).length<=300/\∀ p∈famB L,sG p<=8:=by
 simp only[fX,Bool.and_eq_true,decide_eq_true_eq,List.all_eq_true]at h;refine⟨by rw[vS];exact h.1,fun p hp=>?_⟩;obtain⟨q,hq,rfl⟩:=List.mem_map.1 hp;rw[famB_total];exact(h.2 q hq).1
end Go.Proofs.Ytjfdomfendbhfaa
namespace Go.Proofs.Ytjfdomfendbhfaa
open Go.RowKit
theorem bI:∀ kind∈[1,2,3,4,5,6,7],∀ letters∈[1,2,3,4,5,6],∀ p∈ordL kind 2,fX (famL kind letters p.1 p.2)=true:=by decide +kernel
def qCY (d:DfaV)(ps:List (List ByteArray))(E:Int):Prop:=∃ w' v u1 u2,OfOut w' d ps v u1 u2 E
def uG (d:DfaV)(ps:List (List ByteArray))(E:Int):Prop:=∃ n,qFD d ps n E
inductive LeastR (R:List (List ByteArray)->Int->Prop)(kind letters:Int):List (Int×Int)->Int->Int->Int->Prop
 | nil:LeastR R kind letters [] 0 0 9
 | fam {p:Int×Int} {r:List (Int×Int)} (h:famE kind letters p.1 p.2≠0):LeastR R kind letters (p::r) 0 0 (famE kind letters p.1 p.2)
 | ok {p:Int×Int} {r:List (Int×Int)} (h:famE kind letters p.1 p.2=0) (hR:R (famB (famL kind letters p.1 p.2)) 0):LeastR R kind letters (p::r) p.1 p.2 0
 | bad {p:Int×Int} {r:List (Int×Int)} {E:Int} (h:famE kind letters p.1 p.2=0) (hR:R (famB (famL kind letters p.1 p.2)) E) (h0:E≠0) (h2:E≠20):LeastR R kind letters (p::r) 0 0 E
 | next {p:Int×Int} {r:List (Int×Int)} {k m E:Int} (h:famE kind letters p.1 p.2=0) (hR:R (famB (famL kind letters p.1 p.2)) 20) (hr:LeastR R kind letters r k m E):LeastR R kind letters (p::r) k m E
theorem least_same {R S:List (List ByteArray)->Int->Prop}{kind letters:Int}(hRS:∀ ps E F,R ps E->S ps F->E=F){l:List (Int×Int)}{k m E:Int}(h:LeastR R kind letters l k m E):∀ {k' m' E':Int},LeastR S kind letters l k' m' E'->k=k'/\m=m'/\E=E':=by
 induction h with
 | nil=>intro k' m' E' h';cases h';exact⟨rfl,rfl,rfl⟩
 | fam h =>
  intro k' m' E' h';cases h' with
  | fam _=>exact⟨rfl,rfl,rfl⟩
  | ok h2 _=>exact absurd h2 h
  | bad h2 _ _ _=>exact absurd h2 h
  | next h2 _ _=>exact absurd h2 h
 | ok h hR =>
  intro k' m' E' h';cases h' with
  | fam h2=>exact absurd h h2
  | ok _ _=>exact⟨rfl,rfl,rfl⟩
  | bad _ hS h0 _=>exact absurd (hRS _ _ _ hR hS).symm h0
  | next _ hS _=>have:=hRS _ _ _ hR hS;omega
 | bad h hR h0 h2 =>
  intro k' m' E' h';cases h' with
  | fam h3=>exact absurd h h3
  | ok _ hS=>exact absurd (hRS _ _ _ hR hS) h0
  | bad _ hS _ _=>exact⟨rfl,rfl,hRS _ _ _ hR hS⟩
  | next _ hS _=>exact absurd (hRS _ _ _ hR hS) h2
 | next h hR hr ih =>
  intro k' m' E' h';cases h' with
  | fam h3=>exact absurd h h3
  | ok _ hS=>have:=hRS _ _ _ hR hS;omega
  | bad _ hS _ h2=>exact absurd (hRS _ _ _ hR hS).symm h2
  | next _ _ hr'=>exact ih hr'
def jI (R : List (List ByteArray) → Int → Prop)(d : DfaV)(kind most k m E : Int): Prop :=
 (xD d ≠ 0 ∧ k = 0 ∧ m = 0 ∧ E = xD d) ∨ (xD d = 0 ∧ (kind < 1 ∨ 7 < kind ∨ most < 0 ∨ 8 < most) ∧ k = 0 ∧ m = 0 ∧ E = 1) ∨
  (xD d = 0 ∧ ¬ (kind < 1 ∨ 7 < kind ∨ most < 0 ∨ 8 < most) ∧ LeastR R kind d.letters (ordL kind most.toNat) k m E)
theorem leastOut_same {d:DfaV}{kind most k m E k' m' E':Int}(h:jI (qCY d) d kind most k m E)(h':jI (uG d) d kind most k' m' E'):k=k'/\m=m'/\E=E':=by
 rcases h with ⟨a1,a2,a3,a4⟩|⟨a1,a2,a3,a4,a5⟩|⟨a1,a2,a3⟩
 ·rcases h' with ⟨b1,b2,b3,b4⟩|⟨b1,_⟩|⟨b1,_⟩
  ·exact⟨a2.trans b2.symm,a3.trans b3.symm,a4.trans b4.symm⟩
  ·exact absurd b1 a1
  ·exact absurd b1 a1
 ·rcases h' with ⟨b1,_⟩|⟨b1,b2,b3,b4,b5⟩|⟨b1,b2,_⟩
  ·exact absurd a1 b1
  ·exact⟨a3.trans b3.symm,a4.trans b4.symm,a5.trans b5.symm⟩
  ·exact absurd a2 b2
 ·rcases h' with ⟨b1,_⟩|⟨b1,b2,_⟩|⟨b1,b2,b3⟩
  ·exact absurd a1 b1
  ·exact absurd b2 a2
  ·exact least_same (fun ps E F ⟨w',v,u1,u2,hE⟩ ⟨n,hF⟩=>qHN hE hF) a3 b3
theorem qAW {kind:Int}{mo:Nat}(h:mo<=2){p:Int×Int}(hp:p∈ordL kind mo):p∈ordL kind 2:=by
 unfold ordL at hp ⊢
 split at hp
 ·rename_i h7
  rw[if_pos h7];unfold ordC at hp ⊢;obtain⟨i,hi,hm⟩:=List.mem_flatMap.1 hp;exact List.mem_flatMap.2 ⟨i,List.mem_range.2 (by have:=List.mem_range.1 hi;omega),hm⟩
 ·rename_i h7
  rw[if_neg h7];unfold ordO at hp ⊢;obtain⟨i,hi,hm⟩:=List.mem_map.1 hp;exact List.mem_map.2 ⟨i,List.mem_range.2 (by have:=List.mem_range.1 hi;omega),hm⟩
def tl (s:ByteArray):List UInt8:=s.data.toList
open Go.Maps
theorem patW_ne {bs:List ByteArray}{k:Int}:patW bs k≠20:=by
 unfold patW
 split
 ·decide
 split
 ·decide
 split
 ·decide
 split
 ·decide
 split<;>decide
theorem qDS {k:Int}:∀ {ps:List (List ByteArray)},vP k ps≠20
 | []=>by rw[vP];decide
 | p::ps=>by
  rw[vP]
  split
  ·exact qDS
  ·exact patW_ne
theorem validD_ne {d:DfaV}:xD d≠20:=by
 unfold xD
 split
 ·decide
 split
 ·decide
 split
 ·decide
 split<;>decide
theorem ofE_ne {d:DfaV}{ps:List (List ByteArray)}:ofE d ps≠20:=by
 unfold ofE
 split
 ·split
  ·decide
  ·exact qDS
 ·exact validD_ne
def Refused (d:DfaV)(ps:List (List ByteArray))(u1 u2:ByteArray)(E:Int):Prop:=E=20/\ofE d ps=0/\∃ u v:List Nat,u1=strOfNums (lets u)/\u2=strOfNums (lets v)/\yJ d.letters.toNat u/\yJ d.letters.toNat v/\u.length<=4000/\v.length<=4000 /\
 (∀ i,i<ps.length->acc (xF (ps.getD i []) d.letters) (st0 (xF (ps.getD i []) d.letters)) u=acc (xF (ps.getD i []) d.letters) (st0 (xF (ps.getD i []) d.letters)) v)/\acc d (st0 d) u=true/\acc d (st0 d) v=false
theorem qDV {w':World}{d:DfaV}{ps:List (List ByteArray)}{v:Value}{u1 u2:ByteArray}{E:Int}(h:OfOut w' d ps v u1 u2 E):(∃ (ap:Option Addr) (n cp:Nat) (ac:Option Addr) (m cc:Nat) (r:Int),v=.agg #[.slice ap n cp,.slice ac m cc,.int .i64 r])/\(E≠20\/Refused d ps u1 u2 E):=by
 cases h with
 | bad h=>exact⟨⟨_,_,_,_,_,_,_,rfl⟩,.inl ofE_ne⟩
 | over h ho=>exact⟨⟨_,_,_,_,_,_,_,rfl⟩,.inl (by decide)⟩
 | conf h hu hc u v h1 h2 h3 h4 h5 h6 h7=>exact⟨⟨_,_,_,_,_,_,_,rfl⟩,.inr ⟨rfl,h,u,v,rfl,rfl,h1,h2,h3,h4,h5,h6,h7⟩⟩
 | ok v g l L h hL hl4 hn hg h1 h2 h3 h4 h5 hc h6 =>
  obtain⟨ap,cp,ac,cc,e⟩:=eN hg;exact⟨⟨_,_,_,_,_,_,_,e⟩,.inl (by decide)⟩
end Go.Proofs.Ytjfdomfendbhfaa
