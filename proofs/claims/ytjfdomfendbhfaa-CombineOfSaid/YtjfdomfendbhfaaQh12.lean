/- Part 12 of the proof. -/
import Derived.Test.YtjfdomfendbhfaaQh11
import Derived.BigRegion
set_option linter.unusedVariables false
set_option linter.unusedSimpArgs false
set_option maxRecDepth 100000
set_option maxHeartbeats 16000000
namespace Go.Proofs.Ytjfdomfendbhfaa
open Go.Maps Go.RowKit
theorem qJT {w w':World}{p:Addr}{u:Value}(h:w.cell? p=some u)(hg:w.grownBy w' none):w'.cell? p=some u:=(World.cell?_of_block (hg.block p.block (World.block_lt_of_cell? w p h) (by simp))).trans h
theorem rd_pos {Q:Exit->Act->World->Prop}{v0 v1 v3 v4 v5 v6 v9 v10 v11 v12 v13 v14 v15 v16 v19 v20 v21 v22 v23 v24 v25 v26 v27 v28 v29 v30 v31 v32 v33 v34 v35 v36 v37 v38 v39 v40 v41 v42 v43 v44 v45 v46 v47 v48 v49 v50 v51 v52 v53 v54 v55 v56 v57 v58 v59 v60 v61 v62 v63 v64 v65 v66 v67 v68 v69 v70 v71 v72 v73 v74 v75 v76 v77 v78 v79 v80 v81 v82 v83 v84 v85 v86 v87 v88 v89 v90 v91 v92 v93 v94 v95 v96 v97 v98 v99 v100 v101 v102 v103 v104 v105 v106 v107 v108 v109 v110 v114 v115 v116 v117 v118 v119 v120 v121 v122 v123 v124 v125 v126 v127 v128 v129 v130 v131 v132 v133 v134 v135 v136 v137 v138 v139 v140 v141 v142 v143 v144 v145 v146 v147 v148 v149 v150 v151 v152 v153 v154 v155 v156 v157 v158 v159 v160 v161 v162 v163 v164 v165 v166 v167 v168 v169 v170 v171 v172 v173 v174 v175 v176 v177 v178 v179 v180 v181 v182 v183 v184 v185 v186 v187 v188 v189 v190 v191 v192 v193 v194 v195 v196 v197 v198 v199 v200 v201 v202 v203 v204 v205 v206 v207 v208 v209 v210 v211 v212 v213 v214 v215 v216:Value}{w5 wA ws:World}{bs:List ByteArray}{L:List (List Nat)}{S:List Bool}{kb off cap P pb pc mb n k x G gi:Nat}(HL:Hid (L=bs.map zJ))(HLL:Hid (L.length=bs.length))(HLP:Hid (∀i,i<bs.length->lenP L i=(bs.getD i ⟨#[]⟩).size))(HME:Hid (n=(wJ L).length))(HPV:Hid (yT bs k=0))(HCX:Hid (RCtx w5 bs kb off cap pb pc mb n))(HGR5:Hid (w5.grownBy wA none))(HPC5:Hid (∀W:World,w5.grownBy W none->W.cell? ⟨P,0,none⟩=some (.slice (some ⟨kb,off,none⟩) bs.length cap)))(HROW:Hid (Arr wA gi 4 (bls S)))(HSL:Hid (S.length=n))(HGE:Hid (G=wA.heap.size))(HA0:Hid (Arr ws G 4 (bls (yR L n S x 0))))(HGS:Hid (wA.grownBy ws none))(hlm':bs.length<=9223372036854775807)(hcm:cap<=9223372036854775807)(hbc:bs.length<=cap)(hpc:n<=pc)(hpcx:pc<=9223372036854775807)(hm:n<=22)(hn0m:0<n)(hk6:k<=6)(hx:x<k)(hexit:∀(z19 z20 z21 z113 z114 z115 z116 z117 z118 z119 z120 z121 z122 z123 z124 z125 z126 z127 z128 z129 z130 z131 z132 z133 z134 z135 z136 z137 z138 z139 z140 z141 z142 z143 z144 z145 z146 z147 z148 z149 z150 z151 z152 z153 z154 z155 z156 z157 z158 z159 z160 z161 z162 z163 z164 z165 z166 z167 z168 z169 z170:Value) (wr:World),Arr wr G 4 (bls (yR L n S x n))->wA.grownBy wr none->Q .normal ⟨(v0::v1::(Value.pointer (some ⟨P,0,none⟩))::v3::v4::v5::v6::(Value.slice (some ⟨pb,0,none⟩) n pc)::(Value.map (some mb))::v9::v10::v11::v12::v13::v14::v15::v16::(Value.int .i64 x)::(Value.slice (some ⟨G,0,none⟩) n n)::z19::z20::z21::v22::v23::v24::v25::v26::v27::v28::v29::v30::v31::v32::v33::v34::v35::v36::v37::v38::v39::v40::v41::v42::v43::v44::v45::v46::v47::v48::v49::v50::v51::v52::v53::v54::v55::v56::v57::v58::v59::v60::v61::v62::v63::v64::v65::v66::v67::v68::v69::v70::v71::v72::v73::v74::v75::v76::v77::v78::v79::v80::v81::v82::v83::v84::v85::v86::v87::v88::v89::v90::v91::v92::v93::v94::v95::v96::v97::v98::v99::v100::v101::v102::v103::v104::v105::v106::v107::v108::v109::v110::(Value.slice (some ⟨gi,0,none⟩) n n)::(Value.int .i64 n)::z113::z114::z115::z116::z117::z118::z119::z120::z121::z122::z123::z124::z125::z126::z127::z128::z129::z130::z131::z132::z133::z134::z135::z136::z137::z138::z139::z140::z141::z142::z143::z144::z145::z146::z147::z148::z149::z150::z151::z152::z153::z154::z155::z156::z157::z158::z159::z160::z161::z162::z163::z164::z165::z166::z167::z168::z169::z170::v171::v172::v173::v174::v175::v176::v177::v178::v179::v180::v181::v182::v183::v184::v185::v186::v187::v188::v189::v190::v191::v192::v193::v194::v195::v196::v197::v198::v199::v200::v201::v202::v203::v204::v205::v206::v207::v208::v209::v210::v211::v212::v213::v214::v215::v216::[]).toArray,[]⟩ wr):Code.wp Try.prog (blk Try.f79 8) (Exit.inBlock 8 Q) ⟨(v0::v1::(Value.pointer (some ⟨P,0,none⟩))::v3::v4::v5::v6::(Value.slice (some ⟨pb,0,none⟩) n pc)::(Value.map (some mb))::v9::v10::v11::v12::v13::v14::v15::v16::(Value.int .i64 x)::(Value.slice (some ⟨G,0,none⟩) n n)::v19::v20::v21::v22::v23::v24::v25::v26::v27::v28::v29::v30::v31::v32::v33::v34::v35::v36::v37::v38::v39::v40::v41::v42::v43::v44::v45::v46::v47::v48::v49::v50::v51::v52::v53::v54::v55::v56::v57::v58::v59::v60::v61::v62::v63::v64::v65::v66::v67::v68::v69::v70::v71::v72::v73::v74::v75::v76::v77::v78::v79::v80::v81::v82::v83::v84::v85::v86::v87::v88::v89::v90::v91::v92::v93::v94::v95::v96::v97::v98::v99::v100::v101::v102::v103::v104::v105::v106::v107::v108::v109::v110::(Value.slice (some ⟨gi,0,none⟩) n n)::(Value.int .i64 n)::(Value.int .i64 0)::v114::v115::v116::v117::v118::v119::v120::v121::v122::v123::v124::v125::v126::v127::v128::v129::v130::v131::v132::v133::v134::v135::v136::v137::v138::v139::v140::v141::v142::v143::v144::v145::v146::v147::v148::v149::v150::v151::v152::v153::v154::v155::v156::v157::v158::v159::v160::v161::v162::v163::v164::v165::v166::v167::v168::v169::v170::v171::v172::v173::v174::v175::v176::v177::v178::v179::v180::v181::v182::v183::v184::v185::v186::v187::v188::v189::v190::v191::v192::v193::v194::v195::v196::v197::v198::v199::v200::v201::v202::v203::v204::v205::v206::v207::v208::v209::v210::v211::v212::v213::v214::v215::v216::[]).toArray,[]⟩ ws:=by
 have d5:(x:Int)<k:=by omega
 conv=>arg 2;whnf
 go_loopg [19,20,21,113] n (fun gh s19 s20 s21 i wp=>∃p:Nat,gh+p=n/\i=.int .i64 p/\Arr wp G 4 (bls (yR L n S x p))/\wA.grownBy wp none)
 case atStart=>exact⟨0,rfl,rfl,HA0.out,HGS.out⟩
 case round =>
  clear HA0 HGS;obtain⟨p,a3,rfl,H2,H9⟩:=hrel;have h4:=Kh a3;have HA:=Kh H2;have b8:=Kh H9;clear a3;have h7:=zA HGR5.out H9 (by simp);by_cases hp:p<n
  ·have c7:(p:Int)<n:=by omega
   have a4:=HCX.out.grow h7;obtain⟨bi,bk,H5,c8,b2,b5,a2,cx0,cx1,cu⟩:=a4.at hp;obtain⟨u,hu⟩:∃u,u=bs.getD bi ⟨#[]⟩:=⟨_,rfl⟩;rw[<-hu]at c8 a2 cu;obtain⟨c,hc⟩:∃c,c=S.getD p false:=⟨_,rfl⟩;have c0:=(HROW.out.kept H9 (by simp)).bool p (by rw[HSL.out];exact hp);rw[<-hc]at c0;have c9:(bi:Int)<bs.length:=(by omega);rw[<-HL.out]at b2 b5 a2
   have d7:u.size<=22:=by
    have h9:=rM (bs:=L) (i:=bi) (k:=lenP L bi) (by rw[HLL.out];exact H5) (Nat.le_refl _);rw[<-HME.out,a2]at h9;omega
   have H1:∀i (hi:i<u.size),97<=u[i].toNat/\u[i].toNat-97<k:=by
    rw[hu,zG H5];have:=(qBO HPV.out).2.2.2.2.2.1 bi H5;exact(uB this).2.1
   have a5:=Kh b2;have d3:=Kh b5;have a6:=Kh a2;have HU:=Kh hu;have HC:=Kh hc;have d2:=Kh H1;clear b2 b5 a2 hu hc H2 H9 h7 a4 H1;go_upto_region 31 with fail;have a8:=Ga wr (.cells #[.int .i64 (bi:Int),.int .i64 (bk:Int)] 152) none;have a9:=heap_alloc_new wr (.cells #[.int .i64 (bi:Int),.int .i64 (bk:Int)] 152);obtain⟨v2,b1⟩:∃v2,v2=wr.alloc (.cells #[.int .i64 (bi:Int),.int .i64 (bk:Int)] 152):=⟨_,rfl⟩;obtain⟨A,hA⟩:∃A,A=wr.heap.size:=⟨_,rfl⟩;rw[<-b1,<-hA];rw[<-b1]at a8 a9;rw[<-hA]at a9;obtain⟨d0,d1⟩:=vY a9;have e2:G≠A:=(by have:=HA.out.lt;omega);have H4:=zA b8.out a8 (by simp);have h7:=zA HGR5.out H4 (by simp);have cu2:=vG ((HCX.out.grow h7).blk) bi H5;rw[<-HU.out]at cu2;have cP2:=HPC5.out _ h7;have H0:=Kh (HA.out.kept a8 (by simp));have c4:=Kh (HCX.out.grow h7);have h3:Hid (∀w',v2.grownBy w' none->wA.grownBy w' none):=Kh (fun w' hg=>zA H4 hg (by simp));have b6:=uT L n S x p;have H6:=Kh b6;have ca0:=H0.out.bool p (by rw[b6];exact hp);have fa0:=H0.out.frozen p;obtain⟨o0,c2⟩:∃o0,o0=(yR L n S x p).getD p false:=⟨_,rfl⟩;rw[<-c2]at ca0
   have H7:Hid (c=true->yR L n S x (p+1)=(if stP (bi,bk) then (if leP L (bi,bk) x then (yR L n S x p).set (p+1) true else yR L n S x p).set p true else (if leP L (bi,bk) x then (yR L n S x p).set (p+1) true else yR L n S x p))):=Kh (fun hcc=>by
    show lX L S x p (yR L n S x p)=_
    rw[lX,if_pos (by rw[bitP,<-HC.out];exact hcc),d3.out])
   have H8:Hid (c=false->yR L n S x (p+1)=yR L n S x p):=Kh (fun hcc=>by
    show lX L S x p (yR L n S x p)=_
    rw[lX,if_neg (by rw[bitP,<-HC.out,hcc];simp)])
   clear b1 hA a8 a9 H4 h7 b6 c2 c0 cx0 cx1 cu HA b8;cases c with
   | false =>
    have h6:=Kh (H8.out rfl);clear H7 H8;go_wp2;go_roundg (n-(p+1))
    case measure=>have:=h4.out;omega
    case rel=>exact⟨p+1,by have:=h4.out;omega,by go_num,by rw[h6.out];exact H0.out,h3.out _ (zH _ _)⟩
   | true =>
    have h0:=Kh (H7.out rfl);clear H7 H8;by_cases hlt:bk<u.size
    ·have b3:decide ((bk:Int)<(u.size:Int))=true:=by rw[decide_eq_true_eq];omega
     obtain⟨b0,a0,a1,d6,d8,e0,c3⟩:=iJ d2.out hlt
     have c5:Hid (leP L (bi,bk) x=(a0 == x)):=Kh (by
      have e1:L.getD bi []=zJ u:=by rw[HL.out,nthL_get H5,nthL,<-HU.out]
      rw[leP,a6.out,decide_eq_true hlt,Bool.true_and,e1,c3])
     clear c3;by_cases hax:a0=x
     ·have b4:((a0:Int) == (x:Int))=true:=by simp[hax]
      have h5:Hid (leP L (bi,bk) x=true):=Kh (by rw[c5.out];simp[hax]);have H3:=c4.out.num (bi:=bi) (bk:=bk+1) H5 (by rw[<-HU.out];exact hlt);rw[<-HL.out,<-Nat.add_assoc,<-a5.out]at H3;have a7:p+1<n:=H3.2;have c6:(p:Int)+1<n:=by omega
      have d9:∀qq,(Instr.lookup 150 (.map (some mb)) (.agg #[.int .i64 (bi:Int),.int .i64 ((bk:Int)+1)]) false).run Try.prog (v2.drewN qq)=.ok (.int .i64 ((p:Int)+1)) (v2.drewN qq):=fun qq=>by
       have:=((c4.out.grow (zM v2 qq none)).num (bi:=bi) (bk:=bk+1) H5 (by rw[<-HU.out];exact hlt)).1;rw[<-HL.out,<-Nat.add_assoc,<-a5.out]at this;simpa [posV] using this
      have ca1:=H0.out.bool (p+1) (by rw[H6.out];exact a7);have fa1:=H0.out.frozen (p+1);obtain⟨o1,c1⟩:∃o1,o1=(yR L n S x p).getD (p+1) false:=⟨_,rfl⟩;rw[<-c1]at ca1;clear H3 c1 hax;by_cases hz:bk=0
      ·have ez:((bk:Int) == 0)=true:=by simp[hz]
       have HZ:=Kh hz;by_cases a1:0<bi
       ·have eb:decide (0<(bi:Int))=true:=by rw[decide_eq_true_eq];omega
        have h2:Hid (stP (bi,bk)=true):=Kh (by simp[stP,HZ.out,a1]);clear hz;have h6:Hid (yR L n S x (p+1)=((yR L n S x p).set (p+1) true).set p true):=Kh (by rw[h0.out,h2.out,h5.out];rfl);clear h0 h2 h5;go_wp2_with fail
        go_quiet (fail)
        go_wp2;go_roundg (n-(p+1))
        case measure=>have:=h4.out;omega
        case rel =>
         have h1:=zM v2 nq none;have h8:=H0.out.kept h1 (by simp);refine⟨p+1,by have:=h4.out;omega,by go_num,?_,?_⟩
         ·rw[h6.out];exact(h8.bool_set (p+1) (by rw[H6.out];exact a7) true).bool_set p (by rw[List.length_set,H6.out];exact hp) true
         ·exact zA (zA (h3.out _ h1) (zC (v2.drewN nq) ⟨G,p+1,none⟩ _) (fun y e=>by have e:G=y:=Oj e;have:=HGE.out;omega)) (zC ((v2.drewN nq).setCell ⟨G,p+1,none⟩ _) ⟨G,p,none⟩ _) (fun y e=>by have e:G=y:=Oj e;have:=HGE.out;omega)
       ·have eb:decide (0<(bi:Int))=false:=by rw[decide_eq_false_iff_not];omega
        have h2:Hid (stP (bi,bk)=false):=Kh (by simp[stP];omega);clear hz;have h6:Hid (yR L n S x (p+1)=(yR L n S x p).set (p+1) true):=Kh (by rw[h0.out,h2.out,h5.out];rfl);clear h0 h2 h5;go_wp2_with fail
        go_quiet (fail)
        go_wp2;go_roundg (n-(p+1))
        case measure=>have:=h4.out;omega
        case rel =>
         have h1:=zM v2 nq none;have h8:=H0.out.kept h1 (by simp);refine⟨p+1,by have:=h4.out;omega,by go_num,?_,?_⟩
         ·rw[h6.out];exact h8.bool_set (p+1) (by rw[H6.out];exact a7) true
         ·exact zA (h3.out _ h1) (zC (v2.drewN nq) ⟨G,p+1,none⟩ _) (fun y e=>by have e:G=y:=Oj e;have:=HGE.out;omega)
      ·have ez:((bk:Int) == 0)=false:=by rw[beq_eq_false_iff_ne];omega
       have h2:Hid (stP (bi,bk)=false):=Kh (by simp[stP,hz]);clear hz;have h6:Hid (yR L n S x (p+1)=(yR L n S x p).set (p+1) true):=Kh (by rw[h0.out,h2.out,h5.out];rfl);clear h0 h2 h5;go_wp2_with fail
       go_quiet (fail)
       go_wp2;go_roundg (n-(p+1))
       case measure=>have:=h4.out;omega
       case rel =>
        have h1:=zM v2 nq none;have h8:=H0.out.kept h1 (by simp);refine⟨p+1,by have:=h4.out;omega,by go_num,?_,?_⟩
        ·rw[h6.out];exact h8.bool_set (p+1) (by rw[H6.out];exact a7) true
        ·exact zA (h3.out _ h1) (zC (v2.drewN nq) ⟨G,p+1,none⟩ _) (fun y e=>by have e:G=y:=Oj e;have:=HGE.out;omega)
     ·have b4:((a0:Int) == (x:Int))=false:=by rw[beq_eq_false_iff_ne];omega
      have h5:Hid (leP L (bi,bk) x=false):=Kh (by rw[c5.out];simp[hax]);clear hax;by_cases hz:bk=0
      ·have ez:((bk:Int) == 0)=true:=by simp[hz]
       have HZ:=Kh hz;by_cases a1:0<bi
       ·have eb:decide (0<(bi:Int))=true:=by rw[decide_eq_true_eq];omega
        have h2:Hid (stP (bi,bk)=true):=Kh (by simp[stP,HZ.out,a1]);clear hz;have h6:Hid (yR L n S x (p+1)=(yR L n S x p).set p true):=Kh (by rw[h0.out,h2.out,h5.out];rfl);clear h0 h2 h5;go_wp2_with fail
        go_quiet (fail)
        go_wp2;go_roundg (n-(p+1))
        case measure=>have:=h4.out;omega
        case rel =>
         have h1:=zM v2 nq none;have h8:=H0.out.kept h1 (by simp);refine⟨p+1,by have:=h4.out;omega,by go_num,?_,?_⟩
         ·rw[h6.out];exact h8.bool_set p (by rw[H6.out];exact hp) true
         ·exact zA (h3.out _ h1) (zC (v2.drewN nq) ⟨G,p,none⟩ _) (fun y e=>by have e:G=y:=Oj e;have:=HGE.out;omega)
       ·have eb:decide (0<(bi:Int))=false:=by rw[decide_eq_false_iff_not];omega
        have h2:Hid (stP (bi,bk)=false):=Kh (by simp[stP];omega);clear hz;have h6:Hid (yR L n S x (p+1)=yR L n S x p):=Kh (by rw[h0.out,h2.out,h5.out];rfl);clear h0 h2 h5;go_wp2_with fail
        go_quiet (fail)
        go_wp2;go_roundg (n-(p+1))
        case measure=>have:=h4.out;omega
        case rel =>
         have h1:=zM v2 nq none;have h8:=H0.out.kept h1 (by simp);refine⟨p+1,by have:=h4.out;omega,by go_num,?_,?_⟩
         ·rw[h6.out];exact h8
         ·exact h3.out _ h1
      ·have ez:((bk:Int) == 0)=false:=by rw[beq_eq_false_iff_ne];omega
       have h2:Hid (stP (bi,bk)=false):=Kh (by simp[stP,hz]);clear hz;have h6:Hid (yR L n S x (p+1)=yR L n S x p):=Kh (by rw[h0.out,h2.out,h5.out];rfl);clear h0 h2 h5;go_wp2_with fail
       go_quiet (fail)
       go_wp2;go_roundg (n-(p+1))
       case measure=>have:=h4.out;omega
       case rel =>
        have h1:=zM v2 nq none;have h8:=H0.out.kept h1 (by simp);refine⟨p+1,by have:=h4.out;omega,by go_num,?_,?_⟩
        ·rw[h6.out];exact h8
        ·exact h3.out _ h1
    ·have b3:decide ((bk:Int)<(u.size:Int))=false:=by rw[decide_eq_false_iff_not];omega
     have h5:Hid (leP L (bi,bk) x=false):=Kh (by rw[leP,a6.out,decide_eq_false hlt,Bool.false_and]);by_cases hz:bk=0
     ·have ez:((bk:Int) == 0)=true:=by simp[hz]
      have HZ:=Kh hz;by_cases a1:0<bi
      ·have eb:decide (0<(bi:Int))=true:=by rw[decide_eq_true_eq];omega
       have h2:Hid (stP (bi,bk)=true):=Kh (by simp[stP,HZ.out,a1]);clear hz;have h6:Hid (yR L n S x (p+1)=(yR L n S x p).set p true):=Kh (by rw[h0.out,h2.out,h5.out];rfl);clear h0 h2 h5;go_wp2_with fail
       go_quiet (fail)
       go_wp2;go_roundg (n-(p+1))
       case measure=>have:=h4.out;omega
       case rel =>
        have h1:=zM v2 nq none;have h8:=H0.out.kept h1 (by simp);refine⟨p+1,by have:=h4.out;omega,by go_num,?_,?_⟩
        ·rw[h6.out];exact h8.bool_set p (by rw[H6.out];exact hp) true
        ·exact zA (h3.out _ h1) (zC (v2.drewN nq) ⟨G,p,none⟩ _) (fun y e=>by have e:G=y:=Oj e;have:=HGE.out;omega)
      ·have eb:decide (0<(bi:Int))=false:=by rw[decide_eq_false_iff_not];omega
       have h2:Hid (stP (bi,bk)=false):=Kh (by simp[stP];omega);clear hz;have h6:Hid (yR L n S x (p+1)=yR L n S x p):=Kh (by rw[h0.out,h2.out,h5.out];rfl);clear h0 h2 h5;go_wp2_with fail
       go_quiet (fail)
       go_wp2;go_roundg (n-(p+1))
       case measure=>have:=h4.out;omega
       case rel =>
        have h1:=zM v2 nq none;have h8:=H0.out.kept h1 (by simp);refine⟨p+1,by have:=h4.out;omega,by go_num,?_,?_⟩
        ·rw[h6.out];exact h8
        ·exact h3.out _ h1
     ·have ez:((bk:Int) == 0)=false:=by rw[beq_eq_false_iff_ne];omega
      have h2:Hid (stP (bi,bk)=false):=Kh (by simp[stP,hz]);clear hz;have h6:Hid (yR L n S x (p+1)=yR L n S x p):=Kh (by rw[h0.out,h2.out,h5.out];rfl);clear h0 h2 h5;go_wp2_with fail
      go_quiet (fail)
      go_wp2;go_roundg (n-(p+1))
      case measure=>have:=h4.out;omega
      case rel =>
       have h1:=zM v2 nq none;have h8:=H0.out.kept h1 (by simp);refine⟨p+1,by have:=h4.out;omega,by go_num,?_,?_⟩
       ·rw[h6.out];exact h8
       ·exact h3.out _ h1
  ·have c7:¬(p:Int)<n:=by omega
   have b9:p=n:=by have:=h4.out;omega
   have d4:Hid (Arr wr G 4 (bls (yR L n S x n))):=Kh (by have h9:=H2;rw[b9]at h9;exact h9);have b7:=Kh H9;clear H2 H9 h7 b9 HA b8;go_wp2;exact hexit _ _ _ _ _ _ _ _ _ _ _ _ _ _ _ _ _ _ _ _ _ _ _ _ _ _ _ _ _ _ _ _ _ _ _ _ _ _ _ _ _ _ _ _ _ _ _ _ _ _ _ _ _ _ _ _ _ _ _ _ _ _ d4.out b7.out
theorem rd_reg {K K1 K2 K3:Act->World->Prop}{post:Ending->World->Prop}{v0 v1 v3 v4 v5 v6 v7 v9 v10 v11 v16 v17 v18 v19 v20 v21 v22 v23 v24 v25 v26 v27 v28 v29 v30 v31 v32 v33 v34 v35 v36 v37 v38 v39 v40 v41 v42 v43 v44 v45 v46 v47 v48 v49 v50 v51 v52 v53 v54 v55 v56 v57 v58 v59 v60 v61 v62 v63 v64 v65 v66 v67 v68 v69 v70 v71 v72 v73 v74 v75 v76 v77 v78 v79 v80 v81 v82 v83 v84 v85 v86 v87 v88 v89 v90 v91 v92 v93 v94 v95 v96 v97 v98 v99 v100 v101 v102 v103 v104 v105 v106 v107 v108 v109 v110 v111 v112 v113 v114 v115 v116 v117 v118 v119 v120 v121 v122 v123 v124 v125 v126 v127 v128 v129 v130 v131 v132 v133 v134 v135 v136 v137 v138 v139 v140 v141 v142 v143 v144 v145 v146 v147 v148 v149 v150 v151 v152 v153 v154 v155 v156 v157 v158 v159 v160 v161 v162 v163 v164 v165 v166 v167 v168 v169 v170 v171 v172 v173 v174 v175 v176 v177 v178 v179 v180 v181 v182 v183 v184 v185 v186 v187 v188 v189 v190 v191 v192 v193 v194 v195 v196 v197 v198 v199 v200 v201 v202 v203 v204 v205 v206 v207 v208 v209 v210 v211 v212 v213 v214 v215 v216:Value}{wo:World}{bs:List ByteArray}{ul:ByteArray}{fs:List Bool}{D:World->Option Addr->Nat->Prop}{kb off cap P mb n gi hq0 m sc oD q R1 F cf:Nat}{sf:Option Addr}{bf:Bool}(HOF:Hid (∀W1:World,wo.grownBy W1 none->W1.ownsRow oD 4 1 (.slice sf q cf) q (bls fs)/\oD<=W1.heap.size))(HPUSH:Hid (∀(W1 w':World) (sf':Option Addr) (cf':Nat),w'.ownsRow oD 4 1 (.slice sf' (q+1) cf') (q+1) (bls fs++[.bool bf])->W1.grownBy w' (Value.slice sf q cf).ownBlock->qS W1 w' (.slice sf q cf) (.slice sf' (q+1) cf')->wo.grownBy W1 none->D (w'.setCell ⟨oD,2,none⟩ (.slice sf' (q+1) cf')) sf' cf'/\w'.frozen? ⟨oD,2,none⟩=false/\w'.cell? ⟨oD,2,none⟩=some (.slice sf q cf)))(hlk:∀qq,(Instr.lookup 150 (.map (some mb)) (.agg #[.int .i64 (R1:Int),.int .i64 (ul.size:Int)]) false).run Try.prog (wo.drewN qq)=.ok (.int .i64 (F:Int)) (wo.drewN qq))(hlk1:(Instr.lookup 150 (.map (some mb)) (.agg #[.int .i64 (R1:Int),.int .i64 (ul.size:Int)]) false).run Try.prog wo.drew=.ok (.int .i64 (F:Int)) wo.drew)(hlk0:(Instr.lookup 150 (.map (some mb)) (.agg #[.int .i64 (R1:Int),.int .i64 (ul.size:Int)]) false).run Try.prog wo=.ok (.int .i64 (F:Int)) wo)(d2:wo.cell? ⟨oD,2,none⟩=some (.slice sf q cf))(fz2:wo.frozen? ⟨oD,2,none⟩=false)(pP:wo.cell? ⟨P,0,none⟩=some (.slice (some ⟨kb,off,none⟩) bs.length cap))(cF:wo.cell? ⟨gi,F,none⟩=some (.bool bf))(cul:wo.cell? ⟨kb,off+R1,none⟩=some (.string ul))(chd:wo.cell? ⟨hq0,q,none⟩=some (.slice (some ⟨gi,0,none⟩) n n))(hlm':bs.length<=9223372036854775807)(hcm:cap<=9223372036854775807)(hbc:bs.length<=cap)(hm:n<=22)(hR1l:R1<bs.length)(hq:q<m)(hsc:m<=sc)(hscm':sc<=9223372036854775807)(hFn:F<n)(hl22:m<=4194304)(hexit:∀(z79 z80 z81 z82 z83 z84 z85 z86 z87 z88 z89 z90 z91 z92 z93 z94 z95 z96 z97 z98 z99:Value) (w':World) (sf':Option Addr) (cf':Nat),D w' sf' cf'->K ⟨(v0::v1::(Value.pointer (some ⟨P,0,none⟩))::v3::v4::v5::v6::v7::(Value.map (some mb))::v9::v10::v11::(Value.int .i64 R1)::(Value.slice (some ⟨hq0,0,none⟩) m sc)::(Value.pointer (some ⟨oD,0,none⟩))::(Value.int .i64 q)::v16::v17::v18::v19::v20::v21::v22::v23::v24::v25::v26::v27::v28::v29::v30::v31::v32::v33::v34::v35::v36::v37::v38::v39::v40::v41::v42::v43::v44::v45::v46::v47::v48::v49::v50::v51::v52::v53::v54::v55::v56::v57::v58::v59::v60::v61::v62::v63::v64::v65::v66::v67::v68::v69::v70::v71::v72::v73::v74::v75::v76::v77::v78::z79::z80::z81::z82::z83::z84::z85::z86::z87::z88::z89::z90::z91::z92::z93::z94::z95::z96::z97::z98::z99::v100::v101::v102::v103::v104::v105::v106::v107::v108::v109::v110::v111::v112::v113::v114::v115::v116::v117::v118::v119::v120::v121::v122::v123::v124::v125::v126::v127::v128::v129::v130::v131::v132::v133::v134::v135::v136::v137::v138::v139::v140::v141::v142::v143::v144::v145::v146::v147::v148::v149::v150::v151::v152::v153::v154::v155::v156::v157::v158::v159::v160::v161::v162::v163::v164::v165::v166::v167::v168::v169::v170::v171::v172::v173::v174::v175::v176::v177::v178::v179::v180::v181::v182::v183::v184::v185::v186::v187::v188::v189::v190::v191::v192::v193::v194::v195::v196::v197::v198::v199::v200::v201::v202::v203::v204::v205::v206::v207::v208::v209::v210::v211::v212::v213::v214::v215::v216::[]).toArray,[]⟩ w'):Code.wp Try.prog (reg Try.f79 21) (Exit.then K (Exit.inBlock 5 (Exit.then K1 (Exit.then K2 (Exit.inBlock 4 (Exit.then K3 (bodyPost Try.prog Try.f79 post))))))) ⟨(v0::v1::(Value.pointer (some ⟨P,0,none⟩))::v3::v4::v5::v6::v7::(Value.map (some mb))::v9::v10::v11::(Value.int .i64 R1)::(Value.slice (some ⟨hq0,0,none⟩) m sc)::(Value.pointer (some ⟨oD,0,none⟩))::(Value.int .i64 q)::v16::v17::v18::v19::v20::v21::v22::v23::v24::v25::v26::v27::v28::v29::v30::v31::v32::v33::v34::v35::v36::v37::v38::v39::v40::v41::v42::v43::v44::v45::v46::v47::v48::v49::v50::v51::v52::v53::v54::v55::v56::v57::v58::v59::v60::v61::v62::v63::v64::v65::v66::v67::v68::v69::v70::v71::v72::v73::v74::v75::v76::v77::v78::v79::v80::v81::v82::v83::v84::v85::v86::v87::v88::v89::v90::v91::v92::v93::v94::v95::v96::v97::v98::v99::v100::v101::v102::v103::v104::v105::v106::v107::v108::v109::v110::v111::v112::v113::v114::v115::v116::v117::v118::v119::v120::v121::v122::v123::v124::v125::v126::v127::v128::v129::v130::v131::v132::v133::v134::v135::v136::v137::v138::v139::v140::v141::v142::v143::v144::v145::v146::v147::v148::v149::v150::v151::v152::v153::v154::v155::v156::v157::v158::v159::v160::v161::v162::v163::v164::v165::v166::v167::v168::v169::v170::v171::v172::v173::v174::v175::v176::v177::v178::v179::v180::v181::v182::v183::v184::v185::v186::v187::v188::v189::v190::v191::v192::v193::v194::v195::v196::v197::v198::v199::v200::v201::v202::v203::v204::v205::v206::v207::v208::v209::v210::v211::v212::v213::v214::v215::v216::[]).toArray,[]⟩ wo:=by
 have H1:(R1:Int)<bs.length:=by omega
 have H3:(q:Int)<m:=by omega
 have h8:=World.block_lt_of_cell? _ _ d2;have h7:=World.block_lt_of_cell? _ _ pP;have h6:=World.block_lt_of_cell? _ _ cF;have h5:=World.block_lt_of_cell? _ _ cul;have h4:=World.block_lt_of_cell? _ _ chd;simp only at h8 h7 h6 h5 h4
 conv=>arg 2;whnf
 go_region_law (first|(refine tY ?g1 (.tmp 80) (.tmp 97) 39 ?g2 xJ.toN oD (.slice sf q cf) q (bls fs) ?g3 ?g4 [.bool bf] wo.heap.size ?g5 (0,0) ?g6 ?g7 ?g7b ?g8 ?g9 ?g10 ?_;(case g1=>rfl);(case g2=>rfl);(case g3=>rfl);(case g4=>(refine(HOF.out _ ?_).1;exact vC (o:=.cells #[.bool bf] 4) rfl rfl rfl rfl));(case g5=>rfl);(case g6=>rfl);(case g7=>exact heap_alloc_new (wo.drew) _);(case g7b=>(intro u hu;simp at hu;subst hu;rfl));(case g8=>(unfold maxLen;omega));(case g9=>omega);(case g10=>(refine(HOF.out _ ?_).2;exact vC (o:=.cells #[.bool bf] 4) rfl rfl rfl rfl));intro sf8 cf8 w8 h0 h3 h1;have h2:=HPUSH.out _ _ _ _ h0 h3 h1 (vC (o:=.cells #[.bool bf] 4) rfl rfl rfl rfl);have h9:=h2.2.1;have H0:=h2.2.2;have H2:=Kh h2;clear h2 h0 h3 h1)|fail)
 all_goals
  go_wp2_with fail;exact hexit _ _ _ _ _ _ _ _ _ _ _ _ _ _ _ _ _ _ _ _ _  _ sf8 cf8 H2.out.1
theorem two_boxes2 (w:World)(c1 c2:Array Value)(e1 e2:Nat):((w.alloc (.cells c1 e1)).alloc (.cells c2 e2)).heap[w.heap.size]?=some (.cells c1 e1 (0,0))/\((w.alloc (.cells c1 e1)).alloc (.cells c2 e2)).heap[w.heap.size+1]?=some (.cells c2 e2 (0,0))/\w.grownBy ((w.alloc (.cells c1 e1)).alloc (.cells c2 e2)) none/\((w.alloc (.cells c1 e1)).alloc (.cells c2 e2)).heap.size=w.heap.size+2 :=
 ⟨pY w _ _,pW w _ _,vO (Ga w _ none) _,by rw[zL,zL]⟩
theorem lenP_map {bs:List ByteArray}{i:Nat}(h:i<bs.length):lenP (bs.map zJ) i=(bs.getD i ⟨#[]⟩).size:=by
 unfold lenP;rw[zG (show i<(bs.map zJ).length by simpa using h),zG h];simp[yM]
structure PSt (w1 W:World)(base mb:Nat)(L:List (List Nat))(n:Nat)(sp:Option Addr)(pc:Nat):Prop where
 own:W.ownsRow base 152 2 (.slice sp n pc) n (pJ ((wJ L).take n))
 map:MapK 152 qGE posV W mb n n (numP ((wJ L).take n))
 grown:w1.grownBy W none
 lo:w1.heap.size<=mb/\mb<base
theorem PSt.put {w1 W W1 W2:World}{base mb n i k:Nat}{L:List (List Nat)}{sp sp':Option Addr}{pc pc':Nat}(h:PSt w1 W base mb L n sp pc)(hi:i<L.length)(hk:k<=lenP L i)(hn:n=offP L i+k)(hm:MapK 152 qGE posV W1 mb (n+1) (if (numP ((wJ L).take n) (i,k)).isSome then n else n+1) (fun q=>if q=(i,k) then some n else numP ((wJ L).take n) q))(hg1:W.grownBy W1 (some mb))(ho:W2.ownsRow base 152 2 (.slice sp' (n+1) pc') (n+1) (pJ ((wJ L).take n)++[.int .i64 (i:Int),.int .i64 (k:Int)]))(hg2:W1.grownBy W2 (Value.slice sp n pc).ownBlock):PSt w1 W2 base mb L (n+1) sp' pc':=by
 have hf:=posOf_fresh hi hk;have ht:=bF hi hk;rw[<-hn]at hf ht
 have h0:((wJ L).take n).length=n:=by
  have:=rM hi hk;rw[List.length_take];omega
 have e1:numP ((wJ L).take n) (i,k)=none:=by unfold numP;rw[if_neg hf]
 have e2:(fun q=>if q=(i,k) then some n else numP ((wJ L).take n) q)=numP ((wJ L).take (n+1)):=by
  have:=numP_snoc hf;rw[h0]at this;rw[this,ht]
 rw[e1,e2]at hm;refine⟨by rw[<-ht,posVals_snoc];exact ho,hm.kept hg2 (fun e=>?_),zA (zA h.grown hg1 (fun x e=>by have:=Oj e;have:=h.lo;omega)) hg2 (fun x e=>?_),h.lo⟩
 ·have:=(h.own.lt mb e).1;have:=h.lo;omega
 ·have:=(h.own.lt x e).1;have:=h.lo;omega
theorem rdfa_anyT (B:Nat)(w:World)(v:Value)(bs:List ByteArray)(letters:Int)(h:Row B w v (txtV bs))(hs:∀i (hi:i<bs.length),bs[i].size<=maxLen)(h14:patW bs letters=0->sQ bs<=14):Calls Try.prog 79 #[.agg #[v],.int .i64 letters] w (dZ w (patW bs letters) (xH bs letters)):=by
 have p9:=h.len_le;rw[yC]at p9;have H:=Kh h;obtain⟨a,cap,rfl⟩:=h.shape;rw[yC]at H⊢;have j0:bs.length<=9223372036854775807:=by unfold maxLen at p9;omega
 obtain⟨d7,m8,m3,y3⟩:=two_boxes2 w #[.slice a bs.length cap] #[.int .i64 0,.int .i64 0,.slice none 0 0,.slice none 0 0] 28 42;obtain⟨wA,s0⟩:∃wA,wA=(w.alloc (.cells #[.slice a bs.length cap] 28)).alloc (.cells #[.int .i64 0,.int .i64 0,.slice none 0 0,.slice none 0 0] 42):=⟨_,rfl⟩;rw[<-s0]at d7 m8 m3 y3;obtain⟨P,hP⟩:∃P,P=w.heap.size:=⟨_,rfl⟩;obtain⟨Q,hQ⟩:∃Q,Q=w.heap.size+1:=⟨_,rfl⟩;have G6:=Kh hP;have G5:Hid (Q=P+1):=Kh (by omega);have L2:P<Q:=by omega
 have L0:Q<wA.heap.size:=by omega
 have L1:w.heap.size<=P:=by omega
 rw[<-hQ]at m8;rw[<-hP]at d7;have c0:wA.cell? ⟨P,0,none⟩=some (.slice a bs.length cap):=by simpa using zI d7 0 (by simp)
 have J7:=Kh d7;have J6:=Kh m8;have I6:=Kh m3;have F3:=Kh s0;have B3:=Kh (kT B wA _ bs letters (H.out.kept m3 (by simp)) hs);clear d7 m8 m3 s0 h hs hP hQ y3 p9;go_enter Try.func79,Try.ntmps79;go_upto_region 1 with fail;rw[<-F3.out,<-G6.out,<-G5.out];go_wp2_with fail;refine B3.out.mono ?_;rintro e w1 ⟨rfl,j7⟩;have K3:=j7.size;have y0:=Kh (zA I6.out j7 (by simp));have y1:=Kh (zB J7.out j7 (by simp));have H7:=Kh (zB J6.out j7 (by simp));have q1:=zF H7.out;have f0:=zE H7.out 0;have f1:=zE H7.out 1;have f2:=zE H7.out 2;have f3:=zE H7.out 3;clear j7 B3 c0;by_cases hE:patW bs letters=0
 case neg =>
  have HD:Hid (xH bs letters=jV):=Kh (if_neg hE);obtain⟨E,s4⟩:∃E,E=patW bs letters:=⟨_,rfl⟩;rw[<-s4]at hE⊢;have e1:(E == 0)=false:=by rw[beq_eq_false_iff_ne];exact hE
  obtain⟨q0,q1,q2,q3⟩:=q1;have J3:=Kh s4;clear hE s4;go_wp2;obtain⟨k1,g7⟩:=wF H7.out (.int .i64 0) (.int .i64 0) (.slice none 0 0) (.slice none 0 0);obtain⟨wz,g5⟩:∃wz,wz=(((w1.setCell ⟨Q,0,none⟩ (.int .i64 0)).setCell ⟨Q,1,none⟩ (.int .i64 0)).setCell ⟨Q,2,none⟩ (.slice none 0 0)).setCell ⟨Q,3,none⟩ (.slice none 0 0):=⟨_,rfl⟩;rw[<-g5]at k1 g7⊢;clear g5;obtain⟨r0,r1,r2,r3⟩:=zF k1;clear q0 q1 q2 q3 f0 f1 f2 f3;refine bodyPost_ret (v:=.tuple #[.agg #[.int .i64 0,.int .i64 0,.slice none 0 0,.slice none 0 0],.int .i64 E]) (by simp[results,Try.results79,go_sem,r0,r1,r2,r3]) rfl ?_;exact⟨_,_,by rw[J3.out,HD.out];rfl,by rw[HD.out];exact DfaT.zero _,zA y0.out g7 (fun k e=>by have h7:Q=k:=Oj e;omega)⟩
 rw[hE];clear q1 f0 f1 f2 f3;have D6:=h14 hE;obtain⟨q5,m0,p0,K7,n9,D3,o8⟩:=qBO (vJ.1 hE);obtain⟨k,hk⟩:∃k:Nat,letters=(k:Int):=⟨letters.toNat,by omega⟩
 have HD:Hid (xH bs letters=minD (patD k (bs.map zJ)) k):=Kh (by
  rw[xH,if_pos hE,hk,Int.toNat_natCast])
 subst hk;have q5:1<=k:=by omega
 have m0:k<=6:=by omega
 obtain⟨kb,off,_,ea,K9,m7,r7,y6⟩:=H.out.some_ (by rw[yC];exact p0);rw[yC]at ea m7;simp only[Value.slice.injEq]at ea;obtain⟨rfl,_,rfl⟩:=ea;have z5:cap<=9223372036854775807:=by unfold maxLen at r7;omega
 have J5:=Kh r7;have t5:Hid (∀W:World,w1.grownBy W none->uJ W kb off (txtV bs)):=Kh (fun W hg=>(y6.kept y0.out (by simp)).kept hg (by simp));have t6:=Kh (vJ.1 hE);have HE:=Kh hE;have t7:Hid (∀W:World,w1.grownBy W none->W.cell? ⟨P,0,none⟩=some (.slice (some ⟨kb,off,none⟩) bs.length cap)):=Kh (fun W hg=>by simpa using zI (zB y1.out hg (by simp)) 0 (by simp));obtain⟨L,hL⟩:∃L,L=bs.map zJ:=⟨_,rfl⟩;have A6:L.length=bs.length:=by rw[hL];simp
 have hm:(wJ L).length<=22:=by rw[nW,hL,<-tQ,List.length_map];omega
 have z2:∀i,i<bs.length->lenP L i=(bs.getD i ⟨#[]⟩).size:=fun i hi=>by rw[hL];exact lenP_map hi
 have HL:=Kh hL;have c7:=Kh A6;have x4:=Kh z2;obtain⟨m,p3⟩:∃m,m=(wJ L).length:=⟨_,rfl⟩;rw[<-p3]at hm;have b5:=Kh p3;have E1:=t7.out w1 (zH _ _);have E2:=@run_makeMap Try.prog;obtain⟨mb,l8⟩:∃mb,mb=w1.heap.size:=⟨_,rfl⟩;obtain⟨w2,l6⟩:∃w2,w2=w1.alloc (.map #[] 0):=⟨_,rfl⟩;have m5:=Ga w1 (.map #[] 0) none;have i8:=MapK.made 152 qGE posV w1;rw[<-l6]at m5 i8;rw[<-l8]at i8;have J4:Hid (w2.heap.size=mb+1):=Kh (by rw[l6,zL,l8]);have I2:=Kh l8;have F6:=Kh l6;have J1:=Kh m5
 have B7:Hid (MapK 152 qGE posV w2 mb 0 0 (numP [])):=Kh (by
  have:numP []=(fun _=>none):=by funext x;simp[numP]
  rw[this];exact i8)
 have E0:=t7.out w2 m5;have p4:=i8.lt;have p7:w1.heap.size<=mb:=by omega
 clear hE D3 o8 y6 r7 hL A6 p3 z2 h14 l8 l6 m5 i8 E1;go_upto_region 6 with fail;rw[<-F6.out,<-I2.out];have B5:Hid (PSt w1 w2 w2.heap.size mb L 0 none 0):=Kh ⟨World.ownsRow_nil _ _ _ _,by simpa using B7.out,J1.out,p7,p4⟩;clear E2;go_wp2
 go_loopg [7,9,10,11,35] bs.length (fun gh s7 s9 s10 s11 i wr=>∃(q n:Nat) (sp:Option Addr) (pc:Nat),gh+q=bs.length/\i=.int .i64 q/\n=offP L q/\PSt w1 wr w2.heap.size mb L n sp pc/\s7=.slice sp n pc)
 case atStart=>exact⟨0,0,none,0,rfl,rfl,by rw[uS],B5.out,rfl⟩
 case round =>
  clear B5 B7 E0;obtain⟨q,n,sp,pc,c2,rfl,hn,H3,rfl⟩:=hrel;have g3:=Kh c2;have HN:=Kh hn;have b6:=Kh H3;clear c2 hn;by_cases hq:q<bs.length
  ·have i5:(q:Int)<bs.length:=by omega
   have cu:=vG (t5.out wr H3.grown) q hq;obtain⟨u,hu⟩:∃u,u=bs.getD q ⟨#[]⟩:=⟨_,rfl⟩;rw[<-hu]at cu;have HU:=Kh hu;have e7:=x4.out q hq;rw[<-hu]at e7;have o6:offP L q+lenP L q<m:=(by rw[b5.out];exact rM (by rw[c7.out];exact hq) (Nat.le_refl _));have K4:u.size<=22:=by omega
   have x3:=Kh e7;clear hu H3 e7 o6;go_wp2
   go_loopg [7,11] (u.size+1) (fun gh s7 i wr=>∃(kk n:Nat) (sp:Option Addr) (pc:Nat),gh+kk=u.size+1/\i=.int .i64 kk/\n=offP L q+kk/\PSt w1 wr w2.heap.size mb L n sp pc/\s7=.slice sp n pc)
   case atStart=>exact⟨0,n,sp,pc,rfl,rfl,HN.out,b6.out,rfl⟩
   case round =>
    clear b6 HN cu;obtain⟨kk,n,sp,pc,c2,rfl,hn,H3,rfl⟩:=hrel;have g2:=Kh c2;have HN:=Kh hn;have b6:=Kh H3;have K8:=H3.map.lt
    have g5:w2.heap.size<=wr.heap.size:=by
     have:=J4.out;omega
    clear c2;by_cases hkk:kk<=u.size
    ·have q4:(kk:Int)<=u.size:=by omega
     have i7:n<m:=by
      rw[hn,b5.out];exact rM (by rw[c7.out];exact hq) (by rw[x3.out];exact hkk)
     clear hn H3;go_wp2_with (first|(at_mapUpdate;refine pS qGT rfl _ _ _ rfl mb n n _ (q,kk) n rfl rfl rfl b6.out.map (by unfold maxLen;omega) ⟨by show q<_;omega,by show kk<_;omega⟩ (by omega) ?_;intro w3 d4 m4;(have I3:=Kh d4);(have J0:=Kh m4);(have I0:=Kh (b6.out.own.kept m4 (.inr (fun e=>by have:=(b6.out.own.lt mb e).1;have:=b6.out.lo;omega))));(have K2:=m4.size);clear d4 m4)|(at_builtin;refine dR rfl _ _ _ rfl elem_pos w2.heap.size (.slice sp n pc) n _ rfl I0.out [.int .i64 (q:Int),.int .i64 (kk:Int)] rfl rfl ?a0 ?a1 ?a2 ?a3 ?_;(case a0=>(intro u hu;simp at hu;rcases hu with rfl|rfl<;>rfl));(case a1=>(unfold maxLen;omega));(case a2=>omega);(case a3=>omega);intro sa4 sc4 w4 c9 z4;(have G9:=Kh c9);(have I9:=Kh z4);clear c9 z4)|fail);go_roundg (u.size+1-(kk+1))
     case measure=>have:=g2.out;omega
     case rel=>exact⟨kk+1,n+1,sa4,sc4,by have:=g2.out;omega,by go_num,by rw[HN.out];rfl,b6.out.put (by rw[c7.out];exact hq) (by rw[x3.out];exact hkk) HN.out I3.out J0.out G9.out I9.out,rfl⟩
    ·have q4:¬(kk:Int)<=u.size:=by omega
     have I4:Hid (kk=u.size+1):=Kh (by have:=g2.out;omega);clear hn H3;go_wp2;go_roundg (bs.length-(q+1))
     case measure=>have:=g3.out;omega
     case rel=>exact⟨q+1,n,sp,pc,by have:=g3.out;omega,by go_num,by rw[HN.out,qBS (by rw[c7.out];exact hq),x3.out,I4.out];omega,b6.out,rfl⟩
  ·have y7:q=bs.length:=by have:=g3.out;omega
   have i7:n=m:=by
    have:=nW L;have h9:=HN.out;rw[y7,<-c7.out]at h9;unfold offP at h9;rw[List.take_length]at h9;have:=b5.out;omega
   subst i7;have i5:¬(q:Int)<bs.length:=by omega
   have e6:0<n:=by
    have:=nW L;have:=b5.out;have:=c7.out;omega
   obtain⟨pb,rfl,y9,o4⟩:=owns_some2 H3.own e6;have y5:(wJ L).take n=wJ L:=by rw[b5.out,List.take_length]
   have a7:=H3.own;have a9:=H3.map;rw[y5]at a7 a9;obtain⟨w5,rfl⟩:∃w5:World,w5=wr:=⟨_,rfl⟩;have c5:RCtx w5 bs kb off cap pb pc mb n:=⟨t5.out _ H3.grown,⟨m7,J5.out⟩,by rw[<-HL.out];exact PosAt.of_owns a7,⟨y9,o4⟩,by rw[<-HL.out];exact a9,by rw[<-HL.out];exact b5.out.symm,by omega⟩;have E3:kb<w5.heap.size:=(t5.out _ H3.grown).1;have D9:pb<w5.heap.size:=c5.pos.lt;have z1:mb<w5.heap.size:=c5.map.lt;have C3:=Kh H3.grown;have i1:=Kh c5;have b4:Hid (∀W:World,w5.grownBy W none->W.cell? ⟨P,0,none⟩=some (.slice (some ⟨kb,off,none⟩) bs.length cap)):=Kh (fun W hg=>t7.out W (zA C3.out hg (by simp)))
   have k5:Hid (∀W',w5.grownBy W' none->Calls Try.prog 100 #[.int .i64 (n:Int)] W' fun e W''=>∃g,e=.returned (.slice (some ⟨g,0,none⟩) n n)/\w5.heap.size<=g/\Arr W'' g 4 (bls (nJ n))/\w5.grownBy W'' none/\W''.cell? ⟨P,0,none⟩=some (.slice (some ⟨kb,off,none⟩) bs.length cap)):=Kh (fun W' hg=>(pstart_any W' n e6 (by omega)).mono (by
    rintro e W'' ⟨rfl,h1,h2⟩
    exact⟨_,rfl,hg.size,h1,zA hg h2 (by simp),b4.out _ (zA hg h2 (by simp))⟩))
   have k6:Hid (∀W' g S,w5.grownBy W' none->w5.heap.size<=g->S.length=n->Arr W' g 4 (bls S)->Calls Try.prog 99 #[.agg #[.slice (some ⟨kb,off,none⟩) bs.length cap],.slice (some ⟨pb,0,none⟩) n pc,.map (some mb),.slice (some ⟨g,0,none⟩) n n] W' fun e W''=>e=.returned (.slice (some ⟨g,0,none⟩) n n)/\Arr W'' g 4 (bls (spr L S))/\W'.grownBy W'' (some g)):=Kh (fun W' g S hg h1 h2 h3=>by
    rw[HL.out]
    exact spread_any W' bs kb off cap pb pc mb n g S (i1.out.grow hg) h2 h3 (by omega) (by omega) (by omega))
   obtain⟨R1,A4⟩:∃R1,R1=bs.length-1:=⟨_,rfl⟩;have e71:(bs.length:Int)-1=(R1:Int):=by omega
   have e72:IntKind.i64.wrap ((bs.length:Int)-1)=(R1:Int):=by rw[e71];exact tW (by omega)
   have H9:R1<bs.length:=(by omega);have F0:(R1:Int)<bs.length:=(by omega);have G4:=Kh A4;clear A4;have p5:=b4.out w5 (zH _ _);have o5:pc<=9223372036854775807:=by unfold maxLen at o4;omega
   have F9:Hid (spr L (nJ n)=s0B L):=Kh (by rw[s0B,<-b5.out]);clear a7 a9 c5 H3 y5 b6 y7 o4;go_upto_region 16 with fail;go_cut [13] (fun s13 wx=>∃(g6:Nat) (w7:World),s13=.slice (some ⟨w7.heap.size,0,none⟩) 1 1/\w5.heap.size<=g6/\Arr w7 g6 4 (bls (spr L (nJ n)))/\w5.grownBy w7 none/\wx=w7.alloc (.cells #[.slice (some ⟨g6,0,none⟩) n n] 39))
   case first =>
    go_region_law (first|(go_simp;go_at_call 100;refine(k5.out _ (by first|exact zH _ _|exact zO _ none|exact zM _ _ none)).mono ?_;rintro e w6 ⟨g6,rfl,b8,k3,j4,p6⟩)|(go_simp;go_at_call 99;refine(k6.out _ g6 _ j4 b8 (by simp[nJ]) k3).mono ?_;rintro e w7 ⟨rfl,h5,c1⟩)|fail)
    all_goals
     go_wp2_with fail
     go_meet
     exact⟨g6,w7,rfl,b8,h5,zA j4 c1 (fun x e=>by have:=Oj e;omega),rfl⟩
   case rest =>
   obtain⟨g6,w7,rfl,b8,h5,h0,rfl⟩:=hcut;obtain⟨SS,m9⟩:∃SS,SS=w7.heap.size:=⟨_,rfl⟩;obtain⟨w8,i2⟩:∃w8,w8=w7.alloc (.cells #[.slice (some ⟨g6,0,none⟩) n n] 39):=⟨_,rfl⟩
   have H0:w8.ownsRow w5.heap.size 39 1 (.slice (some ⟨SS,0,none⟩) 1 1) 1 [setV n g6]:=by
    rw[i2,m9];exact World.ownsRow_lit w7 #[setV n g6] 1 h0.size (by unfold maxLen;omega) rfl
   have H2:=Ga w7 (.cells #[.slice (some ⟨g6,0,none⟩) n n] 39) none;rw[<-i2]at H2;obtain⟨oD,l7⟩:∃oD,oD=w8.heap.size:=⟨_,rfl⟩;obtain⟨w9,n7⟩:∃w9,w9=w8.alloc (.cells #[.int .i64 (k:Int),.int .i64 0,.slice none 0 0,.slice none 0 0] 42):=⟨_,rfl⟩;have H6:=Ga w8 (.cells #[.int .i64 (k:Int),.int .i64 0,.slice none 0 0,.slice none 0 0] 42) none;have f9:=heap_alloc_new w8 (.cells #[.int .i64 (k:Int),.int .i64 0,.slice none 0 0,.slice none 0 0] 42);rw[<-n7]at H6 f9;rw[<-l7]at f9;have d5:w5.grownBy w9 none:=zA (zA h0 H2 (by simp)) H6 (by simp);have n6:=(zA h0 H2 (by simp)).size;have o7:w5.heap.size<=oD:=by omega
   have i4:(s0B L).length=n:=by rw[s0B_length];exact b5.out.symm
   have h6:Hid (DSt w5 w9 oD (fun _=>False) k n [s0B L] [g6] (rFs L [s0B L] 0) (rTs L k [s0B L] 0) [] none 0 none 0 (some ⟨SS,0,none⟩) 1):=Kh
    ⟨BX.start f9 o7 d5,zP H0 H6,rfl,fun j hj=>by
     have:j=0:=by simp at hj;exact hj
     subst this;have e:spr L (nJ n)=s0B L:=F9.out;rw[e]at h5
     exact(h5.kept H2 (by simp)).kept H6 (by simp),fun g hg=>by simp at hg;subst hg;exact b8,fun g hg=>by simp[Value.ownBlock],fun x hx=>by simp at hx;subst hx;exact i4⟩
   have t8:Hid (oD=SS+1):=Kh (by rw[l7,i2,zL,m9]);have F5:=Kh i2;have F4:=Kh n7;have L4:=Kh l7;have F8:=Kh m9;clear i2 H0 H2 n7 H6 f9 d5 n6 i4 h5 h0 m9 l7 p5 k5;go_wp2;rw[<-F8.out,<-F5.out];go_upto_region 18 with fail;rw[<-F4.out,<-t8.out];have a4:Hid (BfsI (nxtB L) k (s0B L) [s0B L] 0 0):=Kh BfsI.start;go_wp2
   go_loopg [13,15,16,17,18,19,20,21,22,113] 4194304 (fun gh s13 i s16 s17 s18 s19 s20 s21 s22 s113 wr=>∃(q:Nat) (l:List (List Bool)) (gs:List Nat) (hs:List Value) (X:Nat->Prop) (sf:Option Addr) (cf:Nat) (sn:Option Addr) (cn:Nat) (ss:Option Addr) (sc:Nat),gh+q=4194304/\i=.int .i64 q/\s13=.slice ss l.length sc/\BfsI (nxtB L) k (s0B L) l q 0/\DSt w5 wr oD X k n l gs (rFs L l q) (rTs L k l q) hs sf cf sn cn ss sc)
   case atStart=>exact⟨0,_,_,_,_,_,_,_,_,_,_,rfl,rfl,rfl,a4.out,h6.out⟩
   case round =>
    clear a4 h6;obtain⟨q,l,gs,hs,X,sf,cf,sn,cn,ss,sc,c2,rfl,rfl,b0,h4⟩:=hrel;have g3:=Kh c2;have a4:=Kh b0;have h6:=Kh h4
    have b9:l.length<=4194304:=by
     have h1:=jO n l b0.nd h4.ll;have h2:2 ^ n<=2 ^ 22:=Nat.pow_le_pow_right (by omega) hm;have h3:2 ^ 22=4194304:=by decide
     omega
    by_cases hq:q<l.length
    ·have i5:(q:Int)<l.length:=by omega
     obtain⟨y8,rfl,o0,a6,j3⟩:=h4.hd (by omega);have chd:=j3 q hq;obtain⟨gi,m1⟩:∃gi,gi=gs.getD q 0:=⟨_,rfl⟩;obtain⟨S,hS⟩:∃S,S=l.getD q []:=⟨_,rfl⟩;have H4:=h4.row q hq;rw[<-m1,<-hS]at H4;rw[<-m1]at chd;obtain⟨ul,i3⟩:∃u,u=bs.getD R1 ⟨#[]⟩:=⟨_,rfl⟩;have h0:=h4.bx.grown;have cul:=vG ((i1.out.grow h0).blk) R1 H9;rw[<-i3]at cul;have s2:S.length=n:=by rw[hS,zG hq];exact h4.ll _ (List.getElem_mem hq)
     have b7:=(i1.out.grow h0).num (bi:=R1) (bk:=ul.size) H9 (by rw[<-i3];exact Nat.le_refl _);obtain⟨F,hF⟩:∃F,F=offP L R1+ul.size:=⟨_,rfl⟩;rw[<-HL.out,<-hF]at b7;have A9:=b7.2;have cF:=H4.bool F (by rw[s2];exact A9)
     have j8:S.getD F false=finP L S:=by
      rw[finP,bitP,hF];have e1:L.length-1=R1:=by rw[c7.out];exact G4.out.symm
      rw[e1,x4.out R1 H9,<-i3]
     rw[j8]at cF;obtain⟨bf,f8⟩:∃bf,bf=finP L S:=⟨_,rfl⟩;rw[<-f8]at cF;have J2:=Kh f8;have k7:=Kh hS;have I5:=Kh m1;have F7:=Kh s2;have k4:=Kh i3;have pP:=b4.out _ h0;obtain⟨d0,d1,d2,d3⟩:=zF h4.bx.box;have fz2:=zE h4.bx.box 2;have l5:Hid ((rFs L l q).length=q):=Kh (qGP (by omega));have n2:Hid ((rTs L k l q).length=q):=Kh (qDF (by omega));rw[l5.out]at d2;rw[n2.out]at d3;obtain⟨wo,rfl⟩:∃wo:World,wo=wr:=⟨_,rfl⟩;have a5:sc<=9223372036854775807:=by unfold maxLen at a6;omega
     have z3:∀qq,(Instr.lookup 150 (.map (some mb)) (.agg #[.int .i64 (R1:Int),.int .i64 (ul.size:Int)]) false).run Try.prog (wo.drewN qq)=.ok (.int .i64 (F:Int)) (wo.drewN qq):=fun qq=>by
      have:=(((i1.out.grow h0).grow (zM wo qq none)).num (bi:=R1) (bk:=ul.size) H9 (by rw[<-k4.out];exact Nat.le_refl _)).1;rw[<-HL.out,<-hF]at this;exact this
     have j1:(Instr.lookup 150 (.map (some mb)) (.agg #[.int .i64 (R1:Int),.int .i64 (ul.size:Int)]) false).run Try.prog wo.drew=.ok (.int .i64 (F:Int)) wo.drew:=by
      have:=(((i1.out.grow h0).grow (zO wo none)).num (bi:=R1) (bk:=ul.size) H9 (by rw[<-k4.out];exact Nat.le_refl _)).1;rw[<-HL.out,<-hF]at this;exact this
     have j2:(Instr.lookup 150 (.map (some mb)) (.agg #[.int .i64 (R1:Int),.int .i64 (ul.size:Int)]) false).run Try.prog wo=.ok (.int .i64 (F:Int)) wo:=b7.1;have i6:=zK h4.bx.box;have B6:Hid (∀W1:World,wo.grownBy W1 none->W1.ownsRow oD 4 1 (.slice sf q cf) q (bls (rFs L l q))/\oD<=W1.heap.size):=Kh (fun W1 hg=>⟨by have:=zP h6.out.bx.ownF hg;rwa [l5.out]at this,by have:=hg.size;omega⟩)
     have d8:Hid (∀(W1 w':World) (sf':Option Addr) (cf':Nat),w'.ownsRow oD 4 1 (.slice sf' (q+1) cf') (q+1) (bls (rFs L l q)++[.bool bf])->W1.grownBy w' (Value.slice sf q cf).ownBlock->qS W1 w' (.slice sf q cf) (.slice sf' (q+1) cf')->wo.grownBy W1 none ->
       DSt w5 (w'.setCell ⟨oD,2,none⟩ (.slice sf' (q+1) cf')) oD X k n l gs (rFs L l (q+1)) (rTs L k l q) hs sf' cf' sn cn (some ⟨y8,0,none⟩) sc/\w'.frozen? ⟨oD,2,none⟩=false/\w'.cell? ⟨oD,2,none⟩=some (.slice sf q cf)):=Kh (fun W1 w' sf' cf' ho hg hmv h1=>by
      have s3:=h6.out.grow h1;have B0:=s3.bx.ownF;have r9:=s3.bx.box;rw[l5.out]at B0 r9;have d7:=zB r9 hg (zQ B0 r9 (by decide));have hp:=s3.pushF (b:=bf) l5.out ho hg hmv rfl;rw[J2.out,k7.out,<-rFs_next hq]at hp
      exact⟨hp,zE d7 2,(zF d7).2.2.1⟩)
     clear c2 b0 h4 j3 m1 hS H4 i3 h0 s2 b7 hF j8 f8;go_upto_region 21 with fail;refine rd_reg (D:=fun W1 sf1 cf1=>DSt w5 W1 oD X k n l gs (rFs L l (q+1)) (rTs L k l q) hs sf1 cf1 sn cn (some ⟨y8,0,none⟩) sc) B6 d8 z3 j1 j2 d2 fz2 pP cF cul chd j0 z5 m7 hm H9 hq o0 a5 A9 b9 ?_;intro z79 z80 z81 z82 z83 z84 z85 z86 z87 z88 z89 z90 z91 z92 z93 z94 z95 z96 z97 z98 z99 w8 sf8 cf8 j9;have C6:=Kh j9;clear j9 d8 B6 z3 j2 j1 d0 d1 d2 d3 fz2 pP cF cul chd;go_wp2
     go_loopg [13,16,17,18,19,20,21,22,113] k (fun gh s13 s16 i s18 s19 s20 s21 s22 s113 wr=>∃(x:Nat) (l:List (List Bool)) (gs:List Nat) (ss:Option Addr) (sc:Nat) (sr:Option Addr) (cr:Nat),gh+x=k/\i=.int .i64 x/\s13=.slice ss l.length sc/\s16=.slice sr x cr/\BfsI (nxtB L) k (s0B L) l q x/\q<l.length/\l.getD q []=S/\gs.getD q 0=gi/\DSt w5 wr oD X k n l gs (rFs L l (q+1)) (rTs L k l q) hs sf8 cf8 sn cn ss sc/\wr.ownsRow w5.heap.size 3 1 (.slice sr x cr) x (nats (kV L l S x))/\∀j,(Value.slice sr x cr).ownBlock=some j->¬X j)
     case atStart=>exact⟨0,l,gs,_,sc,none,0,rfl,rfl,rfl,rfl,a4.out,hq,k7.out.symm,I5.out.symm,C6.out,World.ownsRow_nil _ _ _ _,fun j hj=>by simp[Value.ownBlock]at hj⟩
     case round =>
      clear h6 a4 i5 C6 a6 a5 o0 l5 n2 b9;obtain⟨x,l,gs,ss,sc,sr,cr,f5,rfl,rfl,rfl,b0,H5,l9,m2,h4,o2,o1⟩:=hrel;have l0:=Kh f5;have a4:=Kh b0;have h6:=Kh h4;have t4:=Kh o2;have n3:=Kh o1;have g9:=Kh l9;have x6:=Kh m2
      have b9:l.length<=4194304:=by
       have h1:=jO n l b0.nd h4.ll;have h2:2 ^ n<=2 ^ 22:=Nat.pow_le_pow_right (by omega) hm;have h3:2 ^ 22=4194304:=by decide
       omega
      have h0:=h4.bx.grown;have l1:=Kh h0;have K1:=h0.size;by_cases hx:x<k
      ·have D2:(x:Int)<k:=by omega
       obtain⟨D7,rfl,o0,a6,j3⟩:=h4.hd (by omega);have B9:=Kh j3;have H4:=h4.row q H5;rw[m2,l9]at H4;have s8:=Kh H4;have a5:sc<=9223372036854775807:=by unfold maxLen at a6;omega
       have i5:(q:Int)<l.length:=(by omega);obtain⟨wA,rfl⟩:∃wA:World,wA=wr:=⟨_,rfl⟩;clear f5 b0 h4 o2 o1 l9 m2 j3 H4 h0 a6;obtain⟨G,hG⟩:∃G,G=wA.heap.size:=⟨_,rfl⟩;have n5:=Kh hG;go_wp2_with (first|(at_make;refine kC rfl _ _ _ rfl xJ rfl .i64 .i64 _ _ n rfl rfl rfl rfl ?b1 ?b2 ?_;(case b1=>omega);(case b2=>(unfold maxLen;omega));intro ws H8 q8 p8;rw[<-hG]at H8 p8⊢;(have chd:=(qJT (B9.out q H5) q8));rw[x6.out]at chd;(have C9:Hid (Arr ws G 4 (bls (yR L n S x 0))):=Kh (by rw[yR,nE];exact H8));(have C1:=Kh q8);clear H8 q8 hG)|fail);refine rd_pos HL c7 x4 b5 t6 i1 l1 b4 s8 F7 n5 C9 C1 j0 z5 m7 y9 o5 hm e6 m0 hx ?_;intro z19 z20 z21 z113 z114 z115 z116 z117 z118 z119 z120 z121 z122 z123 z124 z125 z126 z127 z128 z129 z130 z131 z132 z133 z134 z135 z136 z137 z138 z139 z140 z141 z142 z143 z144 z145 z146 z147 z148 z149 z150 z151 z152 z153 z154 z155 z156 z157 z158 z159 z160 z161 z162 z163 z164 z165 z166 z167 z168 z169 z170 wr H8 q9;clear C9 C1 chd;have C0:=Kh q9;have f4:=zA l1.out q9 (by simp);have C7:=Kh H8;obtain⟨T,hT⟩:∃T,T=nxtB L S x:=⟨_,rfl⟩;have s1:spr L (yR L n S x n)=T:=by rw[hT,nxtB,<-b5.out]
       have g0:T.length=n:=by rw[hT,nxtB_length];exact b5.out.symm
       have A8:w5.heap.size<=G:=by have:=n5.out;omega
       have pPr:=b4.out wr f4;have s6:=Kh (k6.out wr G _ f4 A8 (uT L n S x n) C7.out);rw[s1]at s6;have HT:=Kh hT;have L3:=Kh s1;have B4:=Kh g0;clear H8 q9 f4 hT s1 g0;go_wp2_with fail;refine s6.out.mono ?_;rintro e w7 ⟨rfl,h5,c1⟩;have j6:wA.grownBy w7 none:=zA C0.out c1 (fun y e=>by have e:G=y:=Oj e;have:=n5.out;omega);have C8:=Kh h5;have I7:=Kh j6;clear h5 c1 j6 s6 C7 C0;go_wp2
       go_loopg [22] l.length (fun gh s22 wq=>∃j:Nat,gh+j=l.length/\s22=.int .i64 j/\(∀i,i<j->l.getD i []≠T)/\w7.grownBy wq none)
       case atStart=>exact⟨0,rfl,rfl,fun i hi=>by omega,zH _ _⟩
       case round =>
        obtain⟨j,f6,rfl,e5,j5⟩:=hrel;have x5:=Kh f6;have x1:=Kh e5;have C2:=Kh j5;have H1:=zA I7.out j5 (by simp);have l2:=Kh H1;by_cases hj:j<l.length
        ·have q7:(j:Int)<l.length:=by omega
         have E5:decide ((j:Int)<(l.length:Int))=true:=by rw[decide_eq_true_eq];exact q7
         have E4:((j:Int) == (l.length:Int))=false:=by rw[beq_eq_false_iff_ne];omega
         have chj:=qJT (B9.out j hj) H1;obtain⟨gj,r4⟩:∃g,g=gs.getD j 0:=⟨_,rfl⟩;rw[<-r4]at chj;have o3:=(h6.out.row j hj).kept H1 (by simp);rw[<-r4]at o3;have g8:=Kh (psame_any wr gj G n (l.getD j []) T (h6.out.ll _ (by rw[zG hj];exact List.getElem_mem hj)) B4.out (by omega) o3 (C8.out.kept j5 (by simp)));clear f6 e5 j5 H1 r4 o3;by_cases heq:l.getD j []=T
         ·have hb:(l.getD j [] == T)=true:=by rw[beq_iff_eq];exact heq
          rw[hb]at g8;have C4:=Kh heq;clear hb heq;go_wp2_with fail;refine g8.out.mono ?_;rintro e w8 ⟨rfl,H2⟩;have c3:=zA l2.out H2 (by simp);have x7:=Kh c3;have b3:=Kh (zP t4.out c3);have D1:=c3.size;clear H2 c3 g8;go_wp2_with (first|(at_builtin;refine qCZ rfl _ _ _ rfl yP w5.heap.size (.slice sr x cr) x (nats (kV L l S x)) rfl b3.out (.int .i64 (j:Int)) rfl rfl ?a1 ?a2 ?a3 ?_;(case a1=>(unfold maxLen;omega));(case a2=>omega);(case a3=>omega);intro sr9 cr9 v9 h8 H6 D0 a8;(have t9:=Kh h8);(have i0:=Kh H6);(have x2:=Kh a8);clear h8 H6 a8)|fail);go_roundg (k-(x+1))
          case measure=>have:=l0.out;omega
          case rel =>
           have e8:l.idxOf (nxtB L S x)=j:=by rw[<-HT.out];exact idx_first hj C4.out x1.out
           have p2:nxtB L S x∈l:=(by rw[<-HT.out,<-C4.out,zG hj];exact List.getElem_mem hj);have k0:=h6.out.grow x7.out;refine⟨x+1,l,gs,_,sc,sr9,cr9,by have:=l0.out;omega,by go_num,rfl,rfl,a4.out.old (by rw[<-g9.out,zG H5,List.getElem?_eq_getElem H5]) p2,H5,g9.out,x6.out,k0.appI b3.out (Nat.le_refl _) n3.out i0.out,?_,fun y hy=>?_⟩
           ·rw[cZ,e8,vZ];exact t9.out
           ·rcases x2.out with h9|⟨_,h9⟩
            ·rw[h9]at hy;exact n3.out y hy
            ·intro hX
             have h1:=h9 y hy;have h2:=k0.bx.lt y hX;omega
         ·have hb:(l.getD j [] == T)=false:=by rw[beq_eq_false_iff_ne];exact heq
          rw[hb]at g8;have I1:=Kh heq;clear hb heq;go_wp2_with fail;refine g8.out.mono ?_;rintro e w8 ⟨rfl,H2⟩;have x8:=Kh H2;clear H2 g8;go_wp2;go_roundg (l.length-(j+1))
          case measure=>have:=x5.out;omega
          case rel =>
           refine⟨j+1,by have:=x5.out;omega,by go_num,fun i hi=>?_,zA C2.out x8.out (by simp)⟩;by_cases e9:i=j
           ·rw[e9];exact I1.out
           ·exact x1.out i (by omega)
        ·have q6:j=l.length:=by have:=x5.out;omega
         have q7:¬(j:Int)<l.length:=(by omega);have E5:decide ((j:Int)<(l.length:Int))=false:=by rw[decide_eq_false_iff_not];exact q7
         have E4:((j:Int) == (l.length:Int))=true:=by simp[q6]
         have B8:=Kh q6;have k9:=Kh (zP h6.out.own H1);have k8:=Kh (zP t4.out H1);have J9:=H1.size;clear f6 e5 j5 H1 q6;go_wp2_with (first|(at_builtin;refine dR rfl _ _ _ rfl elem_brow w5.heap.size (.slice (some ⟨D7,0,none⟩) l.length sc) l.length (gs.map (setV n)) rfl k9.out [.slice (some ⟨G,0,none⟩) n n] rfl rfl ?a0 ?a1 ?a2 ?a3 ?_;(case a0=>(intro u hu;simp at hu;subst hu;rfl));(case a1=>(unfold maxLen;omega));(case a2=>omega);(case a3=>omega);intro ss8 sc8 w8 H0 H2;(have G7:=Kh H0);(have x8:=Kh H2);(have b3:=Kh (k8.out.kept H2 (rY k8.out k9.out (by decide))));(have D1:=H2.size);clear H0 H2)|(at_builtin;refine qCZ rfl _ _ _ rfl yP w5.heap.size (.slice sr x cr) x (nats (kV L l S x)) rfl b3.out (.int .i64 (j:Int)) rfl rfl ?a1 ?a2 ?a3 ?_;(case a1=>(unfold maxLen;omega));(case a2=>omega);(case a3=>omega);intro sr9 cr9 v9 h8 H6 D0 a8;(have t9:=Kh h8);(have i0:=Kh H6);(have x2:=Kh a8);clear h8 H6 a8)|fail);go_roundg (k-(x+1))
         case measure=>have:=l0.out;omega
         case rel =>
          have i7:nxtB L S x ∉ l:=by
           rw[<-HT.out];exact idx_none (fun i hi=>x1.out i (by have:=B8.out;omega))
          have E7:=h6.out.grow l2.out
          have k0:=E7.pushS (T:=T) rfl B4.out (C8.out.kept C2.out (by simp)) A8 (fun e=>by
           have h1:=(h6.out.bx.ownF.lt G e).2;have:=n5.out
           omega) G7.out x8.out
          have m6:=k0.appI b3.out (Nat.le_refl _) n3.out i0.out
          have d6:∀ {α:Type} (a b:List α) (d:α),q<a.length->(a++b).getD q d=a.getD q d:=fun a b d h=>by
           rw[List.getD_eq_getElem?_getD,List.getD_eq_getElem?_getD,List.getElem?_append_left h]
          have e8:(l++[T]).idxOf T=j:=by
           rw[List.idxOf_append,if_neg (by rw[HT.out];exact i7),B8.out];simp
          have E8:S=l.getD q []:=g9.out.symm;have f9:=a4.out.new hx (by rw[<-g9.out,zG H5,List.getElem?_eq_getElem H5]) i7;rw[<-HT.out]at f9;refine⟨x+1,l++[T],gs++[G],ss8,sc8,sr9,cr9,by have:=l0.out;omega,by go_num,by rw[List.length_append];rfl,rfl,f9,by rw[List.length_append];omega,by rw[d6 _ _ _ H5];exact g9.out,by rw[d6 _ _ _ (by rw[h6.out.len];exact H5)];exact x6.out,?_,?_,fun y hy=>?_⟩
          ·rw[rFs_more (by omega),rTs_more a4.out];exact m6
          ·have e1:kV L (l++[T]) S x=kV L l S x:=by
            rw[E8];exact rowTo_more a4.out H5 (by omega)
           rw[cZ,<-HT.out,e8,e1,vZ];exact t9.out
          ·rcases x2.out with h9|⟨_,h9⟩
           ·rw[h9]at hy;exact n3.out y hy
           ·intro hX
            have h1:=h9 y hy;have h2:=k0.bx.lt y hX;omega
      ·have y4:x=k:=by have:=l0.out;omega
       have D2:¬(x:Int)<k:=(by omega);obtain⟨d0,d1,d2,d3⟩:=zF h4.bx.box;have fz3:=zE h4.bx.box 3;have g1:(rTs L k l q).length=q:=qDF (by omega);have hN:=h4.bx.ownN;rw[g1]at d3 hN;have HN:=Kh hN;have n2:=Kh g1;have B2:=Kh y4;have i6:=zK h4.bx.box;clear f5 b0 h4 o2 o1 l9 m2 h0 y4 g1 hN;go_wp2_with (first|(at_builtin;refine qCZ rfl _ _ _ rfl vU oD (.slice sn q cn) q hs rfl HN.out (.slice sr x cr) rfl rfl ?a1 ?a2 ?a3 ?_;(case a1=>(unfold maxLen;omega));(case a2=>omega);(case a3=>omega);intro sn6 cn6 w10 c8 r5 K0 p1;(have G8:=Kh c8);(have I8:=Kh r5);(have z8:=zB h6.out.bx.box r5 (zQ HN.out h6.out.bx.box (by decide)));(obtain⟨e0,e1',e2,e3⟩:=zF z8);(have fz6:=zE z8 3);clear c8 r5 p1)|fail);go_roundg (4194304-(q+1))
       case measure=>have:=g3.out;omega
       case rel =>
        have z6:=a4.out;rw[B2.out]at z6;have A0:=t4.out
        have hp:=h6.out.pushN (Y:=fun j=>X j\/(Value.slice sr x cr).ownBlock=some j) n2.out (fun j hj=>.inl hj) (fun j hj=>by
         rcases hj with hj|hj
         ·exact h6.out.bx.lt j hj
         ·exact(A0.lt j hj).2) G8.out I8.out (row:=sL (nxtB L) k l S) (by
          have h9:=RowX.of_owns (X:=fun j=>X j\/(Value.slice sr x cr).ownBlock=some j) A0 (fun y hy=>.inr hy);rw[show kV L l S x=kV L l S k by rw[B2.out],rowTo_full]at h9
          exact h9) rfl
        have e1:rTs L k l (q+1)=rTs L k l q++[sL (nxtB L) k l S]:=by rw[rTs_next H5,g9.out]
        rw[<-e1]at hp;exact⟨q+1,l,gs,_,_,sf8,cf8,sn6,cn6,ss,sc,by have:=g3.out;omega,by go_num,rfl,z6.next H5,hp⟩
    ·have i5:¬(q:Int)<l.length:=by omega
     have H5:q=l.length:=by have:=b0.le;omega
     have r8:=b0.done hq;have n8:VD (bfsA (nxtB L) k (finP L) l) l.length k:=r8.vd q5 m0 b9;have n1:(rFs L l q).length=q:=qGP (by omega);have g0:(rTs L k l q).length=q:=qDF (by omega);have f7:=(h4.bx.built (n1.trans g0.symm)).dfa
     have B1:(⟨(k:Int),0,rFs L l q,rTs L k l q⟩:DfaV)=bfsA (nxtB L) k (finP L) l:=by
      rw[rFs,rTs,H5,List.take_length];rfl
     rw[B1,n1,g0]at f7;have A7:0<L.length:=by rw[c7.out];exact p0
     have i9:minD (bfsA (nxtB L) k (finP L) l) k=xH bs (k:Int):=by
      rw[HD.out];have D8:=aU (k:=k) q5 m0 p0 n9;refine qBY n8 D8 fun s hs=>?_;obtain⟨b,us,hb,o8⟩:=iU t6.out;have e1:=r8.acc (fin:=finP L) hs;rw[e1,Bool.eq_iff_iff,finP_pat A7,HL.out,hb];exact(qGV o8 hs).symm
     have n4:=Kh (kB wr.heap.size wr _ (bfsA (nxtB L) k (finP L) l) l.length k (Nat.le_refl _) f7 n8);rw[i9]at n4;obtain⟨R,hR⟩:∃R,R=xH bs (k:Int):=⟨_,rfl⟩;rw[<-hR]at n4;have E9:∃N,N<=66/\VD R N k:=by rw[hR];exact qBP t6.out
     obtain⟨N,F2,n0⟩:=E9;have A2:R.letters=k:=n0.hk;have z9:R.start=0:=by rw[hR,HD.out];rfl
     have A3:R.final.length=N:=n0.hn;have A1:R.next.length=N:=n0.nl;obtain⟨d0,d1,d2,d3⟩:=zF h4.bx.box;rw[n1]at d2;rw[g0]at d3;have l3:Hid (w1.grownBy wr none):=Kh (zA C3.out h4.bx.grown (by simp));have HR:=Kh hR;have G2:=Kh A2;have G0:=Kh z9;have G3:=Kh A3;have G1:=Kh A1;have i6:=zK h4.bx.box;clear c2 b0 h4 r8 n8 n1 g0 f7 B1 i9 hR n0 A2 z9 A3 A1 A7 H5 a4 h6 g3;go_wp2_with fail;refine n4.out.mono ?_;rintro e x9 ⟨v9,rfl,m6,H6⟩;have C5:=Kh m6;obtain⟨o9,K5,sf9,cf9,sn9,cn9,rfl,K6,r6⟩:=m6;rw[G2.out,G0.out,G3.out,G1.out]at C5⊢;have i0:=Kh (zA l3.out H6 (by simp));have z7:=zB H7.out i0.out (by simp);have J8:=l3.out.size;have c4:=Ga x9 (.cells #[.int .i64 (k:Int),.int .i64 0,.slice sf9 N cf9,.slice sn9 N cn9] 42) none;have c6:=heap_alloc_new x9 (.cells #[.int .i64 (k:Int),.int .i64 0,.slice sf9 N cf9,.slice sn9 N cn9] 42);obtain⟨x10,d9⟩:∃x10,x10=x9.alloc (.cells #[.int .i64 (k:Int),.int .i64 0,.slice sf9 N cf9,.slice sn9 N cn9] 42):=⟨_,rfl⟩;obtain⟨o10,e4⟩:∃o10,o10=x9.heap.size:=⟨_,rfl⟩;rw[<-d9]at c4 c6;rw[<-e4]at c6;have k2:=zB z7 c4 (by simp);have g4:=Kh k2;have s5:=Kh d9;have x0:=Kh e4;have l4:=Kh c4;have y2:=Kh c6;have F1:Q<wr.heap.size:=(by omega);have A5:¬(512:Int)<N:=(by omega);have z0:Q≠o10:=(by have:=H6.size;omega);clear r6 H6 z7 d0 d1 d2 d3 n4 k2 c4 c6 d9 e4;go_upto_region 46 with fail;rw[<-s5.out,<-x0.out];obtain⟨q0,q1,q2,q3⟩:=zF g4.out;obtain⟨t0,t1,t2,t3⟩:=zF y2.out;have f0:=zE g4.out 0;have f1:=zE g4.out 1;have f2:=zE g4.out 2;have f3:=zE g4.out 3;go_wp2;obtain⟨k1,g7⟩:=wF g4.out (.int .i64 (k:Int)) (.int .i64 0) (.slice sf9 N cf9) (.slice sn9 N cn9);obtain⟨wz,g5⟩:∃wz,wz=(((x10.setCell ⟨Q,0,none⟩ (.int .i64 (k:Int))).setCell ⟨Q,1,none⟩ (.int .i64 0)).setCell ⟨Q,2,none⟩ (.slice sf9 N cf9)).setCell ⟨Q,3,none⟩ (.slice sn9 N cn9):=⟨_,rfl⟩;rw[<-g5]at k1 g7⊢;clear g5;obtain⟨r0,r1,r2,r3⟩:=zF k1;clear q0 q1 q2 q3 f0 f1 f2 f3 t0 t1 t2 t3;refine bodyPost_ret (v:=.tuple #[.agg #[.int .i64 (k:Int),.int .i64 0,.slice sf9 N cf9,.slice sn9 N cn9],.int .i64 0]) (by simp[results,Try.results79,go_sem,r0,r1,r2,r3]) rfl ?_;have E6:=(C5.out.grow l4.out).far g7 g4.out F1;obtain⟨fv9,nv9,D4,D5⟩:=E6.t;refine⟨fv9,nv9,?_,?_,zA (zA (zA y0.out i0.out (by simp)) l4.out (by simp)) g7 (fun y e=>by have h7:Q=y:=Oj e;omega)⟩
     ·rw[HE.out,<-HR.out,<-D4]
     ·rw[<-HR.out];exact D5
end Go.Proofs.Ytjfdomfendbhfaa
namespace Go.Proofs.Ytjfdomfendbhfaa
open Go.RowKit
def autE (letters:Int)(ps:List (List ByteArray)):Int:=if 300<ps.length then 3 else vI letters ps
theorem dQ (B:Nat)(w:World)(v:Value)(ps:List (List ByteArray))(letters:Int)(hB:B<=w.heap.size)(h:vS B w v ps)(hl:ps.length<=4096)(h14:∀p∈ps,patW p letters=0->sQ p<=14):Calls Try.prog 51 #[v,.int .i64 letters] w (qDA w (autE letters ps) (autD ps letters)):=by
 obtain⟨a,c,rfl⟩:=h.shape;obtain⟨n,hn⟩:∃n,n=ps.length:=⟨_,rfl⟩;have HN:=Kh hn;have H:=Kh h;have e4:=Kh h14;rw[<-hn]at hl H⊢;clear h hn h14;go_enter Try.func51,Try.ntmps51;by_cases h3:300<n
 ·have d4:(300:Int)<n:=by omega
  have c6:Hid (autE letters ps=3):=Kh (by unfold autE;rw[if_pos (by rw[<-HN.out];exact h3)]);go_wp2;refine bodyPost_ret (v:=.tuple #[.slice none 0 0,.int .i64 3]) (by simp[results,Try.results51,go_sem]) rfl ?_;exact⟨none,0,0,by rw[c6.out],zH _ _,.inl (by rw[c6.out];decide)⟩
 have d4:¬(300:Int)<n:=by omega
 have a0:Hid (autE letters ps=vI letters ps):=Kh (by unfold autE;rw[if_neg (by rw[<-HN.out];exact h3)]);go_wp2
 go_loopg [7,8,19] n (fun gh s7 s8 i wr=>∃k:Nat,gh+k=n/\i=.int .i64 k/\vI letters (ps.drop k)=vI letters ps/\w.grownBy wr none)
 case atStart=>exact⟨0,rfl,rfl,rfl,zH _ _⟩
 case round =>
  obtain⟨k,H5,rfl,b4,hg⟩:=hrel;have h8:=Kh H5;have HG:=Kh hg;have h5:=Kh b4;clear H5 b4;by_cases hk:k<n
  ·have b7:(k:Int)<n:=by omega
   have H4:=H.out.kept hg (by simp);obtain⟨b,off,cap,e,c9,h7,a7,h4⟩:=H4.at_ (by rw[<-HN.out];omega);rw[<-HN.out]at e h7 h4;simp only[Value.slice.injEq,true_and]at e;obtain⟨rfl,rfl⟩:=e;obtain⟨sa,sc,c1,h2,H0⟩:=h4 k hk;obtain⟨q,hq⟩:∃q,q=ps.getD k []:=⟨_,rfl⟩;rw[<-hq]at c1 h2 H0;have c7:c<=9223372036854775807:=by unfold maxLen at a7;omega
   have HV:Hid (∀W:World,wr.grownBy W none->Calls Try.prog 33 #[.agg #[.slice sa q.length sc],.int .i64 letters] W fun e w'=>e=.returned (.int .i64 (patW q letters))/\w.grownBy w' none):=Kh (fun W hW=>(kT B W _ q letters (h2.kept hW (by simp)) H0).mono fun e w' ⟨he,hg'⟩=>⟨he,zA HG.out (zD hW hg') (by simp)⟩);have HQ:=Kh hq;obtain⟨E,hE⟩:∃E,E=patW q letters:=⟨_,rfl⟩;rw[<-hE]at HV;have HE:=Kh hE;obtain⟨ql,H3⟩:∃n,n=q.length:=⟨_,rfl⟩;rw[<-H3]at c1 HV;clear H4 h4 h2 H0 hq hg hE H3;go_wp2_with fail;refine(HV.out _ (Ga wr _ none)).mono ?_;rintro e w1 ⟨rfl,H6⟩;have h9:=Kh H6;clear H6 HV;by_cases hE:E=0
   ·have e1:(E != 0)=false:=by simp[hE]
    have b1:=Kh hE;clear hE;go_wp2;go_roundg (n-(k+1))
    case measure=>have:=h8.out;omega
    case rel=>exact⟨k+1,by have:=h8.out;omega,by go_num,(mU (by rw[<-HN.out];exact hk) (by rw[<-HQ.out,<-HE.out];exact b1.out)).trans h5.out,h9.out⟩
   ·have e1:(E != 0)=true:=by rw[bne_iff_ne];exact hE
    have b1:=Kh hE;have c5:Hid (vI letters ps=E):=Kh (by rw[<-h5.out,fW (by rw[<-HN.out];exact hk) (by rw[<-HQ.out,<-HE.out];exact hE),<-HQ.out,<-HE.out]);clear hE;go_wp2;refine bodyPost_ret (v:=.tuple #[.slice none 0 0,.int .i64 E]) (by simp[results,Try.results51,go_sem]) rfl ?_;exact⟨none,0,0,by rw[a0.out,c5.out],h9.out,.inl (by rw[a0.out,c5.out];exact b1.out)⟩
  ·have a4:k=n:=by have:=h8.out;omega
   have a9:Hid (vI letters ps=0):=Kh (by rw[<-h5.out];exact kZ (by rw[<-HN.out];exact hk));have c8:¬(k:Int)<n:=by omega
   have d6:Hid (∀j,j<n->patW (ps.getD j []) letters=0):=Kh (fun j hj=>by
    have:=uU.1 a9.out;rw[zG (by rw[<-HN.out];exact hj)]
    exact this _ (List.getElem_mem _))
   clear a4 h5 h8;obtain⟨wo,rfl⟩:∃wo:World,wo=wr:=⟨_,rfl⟩;have c4:Hid (DsUp w.heap.size wo (.slice none 0 0) []):=Kh ⟨World.ownsRow_nil _ _ _ _,fun x hx=>absurd hx (by simp)⟩;have h9:=Kh hg;clear hg HG;go_wp2
   go_loopg [9,11,12,13,32] n (fun gh v9 s11 s12 s13 i wr=>∃(k:Nat) (sa:Option Addr) (sc:Nat) (l:List (DfaV×Value×Value)),gh+k=n/\i=.int .i64 k/\v9=.slice sa k sc/\l.map (·.1)=autD (ps.take k) letters/\DsUp w.heap.size wr (.slice sa k sc) l/\l.length=k/\w.grownBy wr none)
   case atStart=>exact⟨0,_,_,[],rfl,rfl,rfl,rfl,c4.out,rfl,h9.out⟩
   case round =>
    clear c4 h9;obtain⟨k,sa,sc,l,H5,rfl,rfl,b6,b8,b5,hg⟩:=hrel;have h8:=Kh H5;have HG:=Kh hg;have H9:=Kh b6;have b2:=Kh b8;have H8:=Kh b5;clear H5 b6 b8 b5;by_cases hk:k<n
    ·have b7:(k:Int)<n:=by omega
     have H4:=H.out.kept hg (by simp);obtain⟨b,off,cap,e,c9,h7,a7,h4⟩:=H4.at_ (by rw[<-HN.out];omega);rw[<-HN.out]at e h7 h4;simp only[Value.slice.injEq,true_and]at e;obtain⟨rfl,rfl⟩:=e;obtain⟨ea,ec,c1,h2,H0⟩:=h4 k hk;have a3:=d6.out k hk
     have a8:Hid (autD (ps.take (k+1)) letters=autD (ps.take k) letters++[xH (ps.getD k []) letters]):=Kh (by
      rw[zT (d:=[]) (by rw[<-HN.out];exact hk),autD,List.map_append];rfl)
     obtain⟨q,hq⟩:∃q,q=ps.getD k []:=⟨_,rfl⟩;rw[<-hq]at c1 h2 H0 a3 a8;have c7:c<=9223372036854775807:=by unfold maxLen at a7;omega
     have b3:q∈ps:=by rw[hq,zG (by rw[<-HN.out];exact hk)];exact List.getElem_mem _
     have HV:Hid (∀W:World,wr.grownBy W none->Calls Try.prog 79 #[.agg #[.slice ea q.length ec],.int .i64 letters] W (dZ W 0 (xH q letters))):=Kh (fun W hW=>by
      have:=rdfa_anyT B W _ q letters (h2.kept hW (by simp)) H0 (e4.out q b3);rw[a3]at this
      exact this)
     obtain⟨ql,H3⟩:∃n,n=q.length:=⟨_,rfl⟩;obtain⟨D,hD⟩:∃D,D=xH q letters:=⟨_,rfl⟩;rw[<-H3]at c1 HV;rw[<-hD]at HV a8;have e5:=hg.size;clear H4 h4 h2 H0 hq hg H3 a3 hD b3;go_wp2_with fail;refine(HV.out _ (Ga wr _ none)).mono ?_;rintro e w1 ⟨f1,x1,rfl,a2,H6⟩;obtain⟨fa1,fl1,fc1,na1,nl1,nc1,rfl,rfl⟩:=a2.shapes;have h9:=Kh (zA (Ga wr (.cells #[.slice ea ql ec] 28) none) H6 (by simp));have c0:=Kh a2;obtain⟨dl,a6⟩:∃x,x=D.letters:=⟨_,rfl⟩;obtain⟨dst,H1⟩:∃x,x=D.start:=⟨_,rfl⟩;rw[<-a6,<-H1];have e2:=Kh a6;have e0:=Kh H1;clear H6 a2 HV c1 a6 H1;obtain⟨w2,a1⟩:∃w2,w2=w1.alloc (.cells #[.int .i64 dl,.int .i64 dst,.slice fa1 fl1 fc1,.slice na1 nl1 nc1] 42):=⟨_,rfl⟩;have H7:=Ga w1 (.cells #[.int .i64 dl,.int .i64 dst,.slice fa1 fl1 fc1,.slice na1 nl1 nc1] 42) none;have h7:=heap_alloc_new w1 (.cells #[.int .i64 dl,.int .i64 dst,.slice fa1 fl1 fc1,.slice na1 nl1 nc1] 42);obtain⟨R,hR⟩:∃R,R=w1.heap.size:=⟨_,rfl⟩;rw[<-a1]at H7 h7;rw[<-hR]at h7;have d7:=Kh (c0.out.grow H7);have b0:=Kh (zA h9.out H7 (by simp));have H2:=Kh (b2.out.grow b0.out);have d5:=Kh a1;have d8:=Kh hR;obtain⟨d0,d1,d2,d3⟩:=zF h7;have e6:=b0.out.size;clear a1 hR H7 h7 b2 h9 c0;go_upto_region 15 with fail;rw[<-d5.out,<-d8.out];go_wp2_with (first|(at_builtin;refine dR rfl _ _ _ rfl jK w.heap.size (.slice sa k sc) k (kI l) rfl ?h0 [.int .i64 dl,.int .i64 dst,.slice fa1 fl1 fc1,.slice na1 nl1 nc1] rfl rfl ?h1 ?c1 ?c2 ?c3 ?_)|fail)
     case h0=>have:=H2.out.own;rw[H8.out]at this;exact this
     case h1=>intro u hu;simp at hu;rcases hu with rfl|rfl|rfl|rfl<;>rfl
     case c1=>unfold maxLen;omega
     case c2=>omega
     case c3=>have:=HG.out.size;omega
     intro sa' sc' w3 h6 a5;have b9:=H2.out.push (v':=.slice sa' (k+1) sc') (x:=(D,.slice fa1 fl1 fc1,.slice na1 nl1 nc1)) d7.out (by rw[H8.out];unfold dval;rw[<-e2.out,<-e0.out];exact h6) a5;have e3:=Kh b9;have d9:Hid (w.grownBy w3 none):=Kh (zA (zA HG.out b0.out (by simp)) a5 (fun x e=>(H2.out.own.lt x e).1));clear h6 a5 b9;go_wp2;go_roundg (n-(k+1))
     case measure=>have:=h8.out;omega
     case rel=>exact⟨k+1,sa',sc',l++[(D,.slice fa1 fl1 fc1,.slice na1 nl1 nc1)],by have:=h8.out;omega,by go_num,rfl,by rw[a8.out,List.map_append,H9.out];rfl,e3.out,by rw[List.length_append,H8.out];rfl,d9.out⟩
    ·have a4:k=n:=by have:=h8.out;omega
     have b7:¬(k:Int)<n:=(by omega);have HE:Hid (ps.take k=ps):=Kh (List.take_of_length_le (by rw[<-HN.out];omega));rw[HE.out]at H9;clear hg a4;go_wp2;refine bodyPost_ret (v:=.tuple #[.slice sa k sc,.int .i64 0]) (by simp[results,Try.results51,go_sem]) rfl ?_;exact⟨sa,k,sc,by rw[a0.out,a9.out],HG.out,.inr ⟨by rw[a0.out,a9.out],by rw[<-H9.out,List.length_map,H8.out],l,H9.out,b2.out⟩⟩
open Go.Maps
theorem rE {w:World}{b e sz n g cap i:Nat}{xs:List Value}(h:w.ownsRow b e sz (.slice (some ⟨g,0,none⟩) n cap) n xs)(u:Value):(w.setCell ⟨g,i,none⟩ u).ownsRow b e sz (.slice (some ⟨g,0,none⟩) n cap) n (xs.set i u):=by
 refine⟨by rw[List.length_set];exact h.1,?_⟩;rcases h.2 with ⟨hv,_⟩|⟨g',cap',cur,hv,hb,hg,hnc,hcm,hcs,htake⟩
 ·simp at hv
 ·simp only[Value.slice.injEq,Option.some.injEq,Addr.mk.injEq]at hv
  obtain⟨⟨rfl,_⟩,_,rfl⟩:=hv;have hs:=heap_setCell_same w g i _ _ u hg;refine .inr ⟨g,cap,_,rfl,hb,hs,hnc,hcm,by simpa using hcs,?_⟩;rw[<-htake];simp[List.take_set]
def ltN (t:List Nat):List Nat:=t.map fun b=>97+b
theorem ltN_length (t:List Nat):(ltN t).length=t.length:=by simp[ltN]
theorem qIQ (t:List Nat):zb (ltN t)=lets t:=by simp[zb,ltN,lets]
def RevI (t l:List Nat)(i:Nat):Prop:=l.length=t.length/\∀p,p<t.length->l.getD p 0=if p<i\/t.length<=p+i then t.getD (t.length-1-p) 0 else t.getD p 0
theorem RevI.start (t:List Nat):RevI t t 0:=⟨rfl,fun p hp=>by rw[if_neg (by omega)]⟩
theorem qCN {l:List Nat}{i p x:Nat}(hi:i<l.length):(l.set i x).getD p 0=if p=i then x else l.getD p 0:=by
 simp only[List.getD_eq_getElem?_getD,List.getElem?_set]
 split
 ·rename_i e;subst e;simp[hi]
 ·rename_i e;rw[if_neg (fun h=>e h.symm)]
theorem RevI.step {t l:List Nat}{i j:Nat}(h:RevI t l i)(hj:i+j+1=t.length)(hij:i<j):RevI t ((l.set i (l.getD j 0)).set j (l.getD i 0)) (i+1):=by
 refine⟨by simp[h.1],fun p hp=>?_⟩;rw[qCN (by rw[List.length_set,h.1];omega),qCN (by rw[h.1];omega)];by_cases e1:p=j
 ·subst e1
  rw[if_pos rfl,if_pos (by omega),h.2 i (by omega),if_neg (by omega)];congr 1;omega
 ·rw[if_neg e1]
  by_cases e2:p=i
  ·subst e2
   rw[if_pos rfl,if_pos (by omega),h.2 j (by omega),if_neg (by omega)];congr 1;omega
  ·rw[if_neg e2,h.2 p hp]
   by_cases e3:p<i\/t.length<=p+i
   ·rw[if_pos e3,if_pos (by omega)]
   ·rw[if_neg e3,if_neg (by omega)]
theorem RevI.done {t l:List Nat}{i j:Nat}(h:RevI t l i)(hj:i+j+1=t.length)(hij:j<=i):l=t.reverse:=by
 refine List.ext_getElem (by rw[h.1,List.length_reverse]) fun p h1 h2=>?_;have hp:p<t.length:=by rw[<-h.1];exact h1
 have:=h.2 p hp;rw[zG h1]at this;rw[this,List.getElem_reverse]
 split
 ·rw[zG (by omega)]
 ·have:p=t.length-1-p:=by omega
  rw[zG hp];congr 1
def qIA (w:World)(ds:List DfaV)(k:Nat)(L:List (List Nat))(s:Nat)(e:Ending)(w':World):Prop :=
 ∃u:List Nat,yO k u/\u.length<=s/\sM (nxtT ds) (L.getD 0 []) u=L.getD s []/\e=.returned (.string (strOfNums (lets u)))/\w.grownBy w' none
theorem swap_own {w W:World}{b e n g cap i j:Nat}{t:List Nat}(h:w.ownsRow b e 1 (.slice (some ⟨g,0,none⟩) n cap) n (u8s t))(hij:i≠j)(x y:Nat)(hW:W=(w.setCell ⟨g,i,none⟩ (.int .u8 (x:Int))).setCell ⟨g,j,none⟩ (.int .u8 (y:Int))\/W=(w.setCell ⟨g,j,none⟩ (.int .u8 (y:Int))).setCell ⟨g,i,none⟩ (.int .u8 (x:Int))):W.ownsRow b e 1 (.slice (some ⟨g,0,none⟩) n cap) n (u8s ((t.set i x).set j y))/\w.grownBy W (some g):=by
 refine⟨?_,?_⟩
 ·rcases hW with rfl|rfl
  ·have:=rE (i:=j) (rE (i:=i) h (.int .u8 (x:Int))) (.int .u8 (y:Int))
   rwa [fD,fD]at this
  ·have:=rE (i:=i) (rE (i:=j) h (.int .u8 (y:Int))) (.int .u8 (x:Int))
   rw[fD,fD,List.set_comm _ _ (fun e=>hij e.symm)]at this;exact this
 ·rcases hW with rfl|rfl
  ·exact zD (zC w ⟨g,i,none⟩ _) (zC _ ⟨g,j,none⟩ _)
  ·exact zD (zC w ⟨g,j,none⟩ _) (zC _ ⟨g,i,none⟩ _)
theorem pword_any (w:World)(o k:Nat)(pv:Value)(ds:List DfaV)(L:List (List Nat))(nxl fr bl:List Nat)(sb sc nb nc fb fc bb bc s:Nat)(h:ProdV w o k pv L nxl fr bl sb sc nb nc fb fc bb bc)(hf:dX ds k L fr bl)(hk6:k<=6)(hs:s<L.length)(hL:L.length<=4000):Calls Try.prog 60 #[.pointer (some ⟨o,0,none⟩),.int .i64 (s:Int)] w (qIA w ds k L s):=by
 obtain⟨m,hm⟩:∃m,m=L.length:=⟨_,rfl⟩;have H:=Kh h;have HF:=Kh hf;have HM:=Kh hm;rw[<-hm]at hs hL;clear h hf hm;go_enter Try.func60,Try.ntmps60;go_wp2
 go_loopg [1,5] s (fun gh v1 v5 wr=>∃(q:Nat) (sa:Option Addr) (sc:Nat) (t:List Nat),gh=q/\v1=.int .i64 q/\v5=.slice sa t.length sc/\wr.ownsRow w.heap.size 5 1 (.slice sa t.length sc) t.length (u8s (ltN t))/\BackI ds k L s q t/\w.grownBy wr none)
 case atStart=>exact⟨s,none,0,[],rfl,rfl,rfl,World.ownsRow_nil _ _ _ _,BackI.start _ _ _ _,zH _ _⟩
 case round =>
  obtain⟨q,sa,sd,t,a3,rfl,rfl,h3,H8,hg⟩:=hrel;have b6:=Kh a3;have HO:=Kh h3;have HB:=Kh H8;have HG:=Kh hg;have H5:=H8.len;clear a3 h3 H8;by_cases hq:q=0
  ·subst hq
   obtain⟨n,hn⟩:∃n,n=t.length:=⟨_,rfl⟩;have HN:=Kh hn;rw[<-hn]at H5 HO⊢;have H9:=Kh (RevI.start (ltN t));obtain⟨lt,h9⟩:∃x,x=ltN t:=⟨_,rfl⟩;have h4:lt.length=n:=by rw[h9,ltN_length,hn]
   rw[<-h9]at H9 HO;have a7:=Kh h9;have a0:=Kh h4;clear hn h9 h4 hg;by_cases hn0:n=0
   ·subst hn0
    have H7:=oK 106 5 Try.underlying106 Try.underlying5 9 Try.underlying9 (xs:=zb lt) HO.out;obtain⟨X,hX⟩:∃X,X=strOfNums (zb lt):=⟨_,rfl⟩;rw[<-hX]at H7;have HX:=Kh hX;clear hX;go_wp2
    go_loopw [6,7] (fun v6 v7 wr2=>v6=.int .i64 0/\v7=.int .i64 (-1)/\wr2=wr) (fun _ _ _=>0)
    case atStart=>exact⟨rfl,rfl,rfl⟩
    case round =>
     obtain⟨rfl,rfl,rfl⟩:=hrel;go_wp2;go_ret;refine⟨t.reverse,fun a ha=>HB.out.ok a (by simpa using ha),by rw[List.length_reverse,<-HN.out];omega,HB.out.walk,?_,HG.out⟩;have h1:t=[]:=List.eq_nil_of_length_eq_zero HN.out.symm;rw[HX.out,a7.out,qIQ,h1];rfl
   ·obtain⟨gb,rfl,c6,b4,h0⟩:=yG HO.out (by omega)
    have c4:sd<=9223372036854775807:=by unfold maxLen at b4;omega
    clear h0;obtain⟨wo,rfl⟩:∃wo:World,wo=wr:=⟨_,rfl⟩;go_wp2
    go_loopg [6,7] (n-1) (fun gh v6 v7 wr=>∃(i j:Nat) (l:List Nat),gh=j/\v6=.int .i64 i/\v7=.int .i64 j/\i+j+1=n/\RevI lt l i/\wr.ownsRow w.heap.size 5 1 (.slice (some ⟨gb,0,none⟩) n sd) n (u8s l)/\w.grownBy wr none)
    case atStart=>exact⟨0,n-1,lt,rfl,rfl,by go_num,by omega,H9.out,HO.out,HG.out⟩
    case round =>
     clear HG HO H9;obtain⟨i,j,l,a4,rfl,rfl,a2,H2,h3,hg⟩:=hrel;have b8:=Kh a4;have H1:=Kh a2;have a6:=Kh H2;have HO:=Kh h3;have HG:=Kh hg;have h0:=Arr.of_owns h3;have H4:l.length=n:=by rw[H2.1,a0.out]
     have c7:=Kh H4;clear a4 a2 H2;by_cases h4:i<j
     ·have H3:(i:Int)<j:=by omega
      have c5:j<n:=(by have:=H1.out;omega);have b0:(j:Int)<n:=(by omega);have b1:(i:Int)<n:=(by omega);have c1:=aH h0 i (by omega);have c2:=aH h0 j (by omega);have f1:=h0.frozen i;have f2:=h0.frozen j;obtain⟨x,hx⟩:∃x,x=l.getD i 0:=⟨_,rfl⟩;obtain⟨y,hy⟩:∃y,y=l.getD j 0:=⟨_,rfl⟩;rw[<-hx]at c1;rw[<-hy]at c2;have h7:=Kh (a6.out.step (by rw[a0.out];exact H1.out) h4);rw[<-hx,<-hy]at h7;have b2:=h0.lt;clear hx hy h0 H4 h3 hg;go_wp2
      go_region
      all_goals
       go_wp2;go_roundg (j-1)
       case measure=>have:=b8.out;omega
       case rel =>
        obtain⟨h1,h2⟩:=swap_own (W:=_) (zP HO.out (zO _ none)) (show i≠j by omega) y x (by first|exact .inl rfl|exact .inr rfl);exact⟨i+1,j-1,_,rfl,by go_num,by go_num,by have:=H1.out;omega,h7.out,h1,zA (zA HG.out (zO _ none) (by simp)) h2 (fun x e=>by have e:gb=x:=Oj e;subst e;exact(HO.out.lt _ rfl).1)⟩
     ·have H3:¬(i:Int)<j:=by omega
      have a1:=Kh (a6.out.done (by rw[a0.out];exact H1.out) (by omega));have H7:=oK 106 5 Try.underlying106 Try.underlying5 9 Try.underlying9 (xs:=zb l) HO.out;obtain⟨X,hX⟩:∃X,X=strOfNums (zb l):=⟨_,rfl⟩;rw[<-hX]at H7;have HX:=Kh hX;clear hX h0 h3 hg H4;go_wp2;go_ret;refine⟨t.reverse,fun a ha=>HB.out.ok a (by simpa using ha),by rw[List.length_reverse,<-HN.out];omega,HB.out.walk,?_,HG.out⟩;rw[HX.out,a1.out,a7.out];rw[show (ltN t).reverse=ltN t.reverse by simp[ltN],qIQ];rfl
  ·have hv:=H.out.grow hg
   obtain⟨x0,x1,x2,x3,x4,x5⟩:=hv.cells;have h8:q<m:=(by omega);have c1:=hv.fr q (by rw[<-HM.out];exact h8);have c2:=hv.by_ q (by rw[<-HM.out];exact h8);obtain⟨e1,e2,e3⟩:=HF.out.2.2 q (by omega) (by rw[<-HM.out];exact h8);have h7:=Kh (HB.out.step e2 e1 e3);obtain⟨f,H6⟩:∃f,f=fr.getD q 0:=⟨_,rfl⟩;obtain⟨b,a5⟩:∃b,b=bl.getD q 0:=⟨_,rfl⟩;rw[<-H6]at c1 e1 h7;rw[<-a5]at c2 e2 h7;have H0:=hv.caps;rw[<-HM.out]at x4 x5 H0;have k1:fc<=9223372036854775807:=by have:=H0.2.2.2.2.2.1;unfold maxLen at this;omega
   have k2:bc<=9223372036854775807:=by have:=H0.2.2.2.2.2.2.2;unfold maxLen at this;omega
   have c3:((q:Int) != 0)=true:=by rw[bne_iff_ne];omega
   have c0:¬(q:Int)=0:=by omega
   have a9:(q:Int)<m:=(by omega);have e4:IntKind.u8.wrap (b:Int)=b:=IntWalk.u8_in _ (by omega);have e5:IntKind.u8.wrap (97+(b:Int))=97+(b:Int):=IntWalk.u8_in _ (by omega);have a8:=hg.size
   have b9:Hid (∀W:World,w.grownBy W none->W.cell? ⟨o,4,none⟩=some (.slice (some ⟨fb,0,none⟩) m fc)/\W.cell? ⟨fb,q,none⟩=some (.int .i64 (f:Int))):=Kh (fun W hW=>by
    have hv:=H.out.grow hW;refine⟨by have:=hv.cells.2.2.2.2.1;rw[<-HM.out]at this;exact this,?_⟩;have:=hv.fr q (by rw[<-HM.out];exact h8)
    rw[<-H6]at this;exact this)
   clear hv H6 a5 H0 e3 hg x0 x1 x2 x3;go_upto_region 3 with (first|(at_builtin;refine dR rfl _ _ _ rfl qDM.toN w.heap.size (.slice sa t.length sd) t.length (u8s (ltN t)) rfl HO.out [.int .u8 (97+(b:Int))] rfl rfl ?z1 ?z2 ?z3 ?z4 ?_;(case z1=>(intro v hv;simp only[List.mem_cons,List.not_mem_nil,or_false]at hv;subst hv;rfl));(case z2=>(unfold maxLen;omega));(case z3=>(show (t.length+1)*1<=140737488355328;omega));(case z4=>exact a8);intro sn cn wM h5 b3)|fail)
   have h6:=zA HG.out b3 (fun x e=>(HO.out.lt x e).1);obtain⟨d1,d2⟩:=b9.out wM h6;have b5:=Kh h5;have b7:=Kh h6;clear h5 h6 c1 c2 x4 x5;go_wp2;go_roundg f
   case measure=>have:=b6.out;omega
   case rel =>
    refine⟨f,sn,cn,t++[b],rfl,rfl,by rw[List.length_append];rfl,?_,h7.out,b7.out⟩;rw[List.length_append,show u8s (ltN (t++[b]))=u8s (ltN t)++[.int .u8 (97+(b:Int))] by simp[u8s,ltN,zb]];exact b5.out
def mN (m:List Bool):List Nat:=m.map fun b=>if b=true then 1 else 0
def mT (m:List Bool):ByteArray:=txtT (mN m)
theorem rG (m:List Bool):(mN m).length=m.length:=by simp[mN]
theorem mN_get {m:List Bool}{i:Nat}(hi:i<m.length):(mN m).getD i 0=if m.getD i false=true then 1 else 0:=by
 rw[zG (by rw[rG];exact hi),zG hi];simp[mN]
theorem qJQ (m:List Bool):∀x∈mN m,x<256:=by
 intro x hx;simp only[mN,List.mem_map]at hx;obtain⟨b,_,rfl⟩:=hx
 split<;>omega
theorem qIV:∀ {m n:List Bool},mN m=mN n->m=n
 | [],[],_=>rfl
 | [],y::n,h=>by simp[mN]at h
 | x::m,[],h=>by simp[mN]at h
 | x::m,y::n,h=>by
  simp only[mN,List.map_cons,List.cons.injEq]at h
  have h2:m=n:=qIV (by simpa [mN] using h.2)
  have h1:=h.1
  cases x<;>cases y<;>simp_all
theorem qAA (m:List Bool):(mT m).size=m.length:=by rw[mT,pR,rG]
theorem key_mT {n:Nat}(h:n<=400):KeyK 129 9 (fun m:List Bool=>m.length=n) (fun m=>.string (mT m)) where
 key:=lA
 und:=pA
 of:=fun a ha=>by rw[Go.WideMaps.keyOf_string_mk nP (by rw[qAA,ha];unfold maxLen;omega)];rfl
 inj:=fun a b ha hb e=>qIV (qDU (qJQ a) (qJQ b) (by simpa [mT] using e))
def cval (c:ClaV):List Value:=[.string (mT c.m),.int .i64 c.yes,.int .i64 c.no]
def sH (l:List ClaV):List Value:=l.flatMap cval
theorem iH (l:List ClaV)(c:ClaV):sH (l++[c])=sH l++cval c:=by simp[sH]
theorem oB (c:ClaV)(l:List ClaV):sH (c::l)=.string (mT c.m)::.int .i64 c.yes::.int .i64 c.no::sH l:=rfl
theorem oA:∀(l:List ClaV) (i:Nat) (h:i<l.length),(sH l)[i*3]?=some (.string (mT l[i].m))/\(sH l)[i*3+1]?=some (.int .i64 l[i].yes)/\(sH l)[i*3+2]?=some (.int .i64 l[i].no)
 | [],i,h=>by simp at h
 | x::l,0,_=>⟨rfl,rfl,rfl⟩
 | x::l,i+1,h=>by
  have h1:=oA l i (by simpa using h)
  rw[oB,show (i+1)*3=i*3+1+1+1 by omega,show i*3+1+1+1+1=(i*3+1)+1+1+1 by omega,show i*3+1+1+1+2=(i*3+2)+1+1+1 by omega]
  simpa using h1
theorem dA:∀(l:List ClaV) (i:Nat) (y:Int),i<l.length->(sH l).set (i*3+1) (.int .i64 y)=sH (l.set i ⟨(l.getD i default).m,y,(l.getD i default).no⟩)
 | [],i,y,h=>by simp at h
 | x::l,0,y,_=>rfl
 | x::l,i+1,y,h=>by
  have h1:=dA l i y (by simpa using h)
  rw[oB,show (i+1)*3+1=(i*3+1)+1+1+1 by omega]
  simp only[List.set_cons_succ,List.getD_cons_succ,oB]
  rw[h1]
theorem qAM:∀(l:List ClaV) (i:Nat) (y:Int),i<l.length->(sH l).set (i*3+2) (.int .i64 y)=sH (l.set i ⟨(l.getD i default).m,(l.getD i default).yes,y⟩)
 | [],i,y,h=>by simp at h
 | x::l,0,y,_=>rfl
 | x::l,i+1,y,h=>by
  have h1:=qAM l i y (by simpa using h)
  rw[oB,show (i+1)*3+2=(i*3+2)+1+1+1 by omega]
  simp only[List.set_cons_succ,List.getD_cons_succ,oB]
  rw[h1]
theorem qAI:ElemN Try.prog 96 99 3 (.agg #[.string ⟨#[]⟩,.int .i64 0,.int .i64 0]) 32:=⟨by kernel_rfl,by kernel_rfl,by rfl,by decide⟩
structure ClsO (w:World)(g off:Nat)(l:List ClaV):Prop where
 lt:g<w.heap.size
 m:∀i,i<l.length->w.cell? ⟨g,off+i*3,none⟩=some (.string (mT (l.getD i default).m))
 y:∀i,i<l.length->w.cell? ⟨g,off+i*3+1,none⟩=some (.int .i64 (l.getD i default).yes)
 n:∀i,i<l.length->w.cell? ⟨g,off+i*3+2,none⟩=some (.int .i64 (l.getD i default).no)
theorem ClsO.of_block {w w':World}{g off:Nat}{l:List ClaV}(h:ClsO w g off l)(hb:w'.heap[g]?=w.heap[g]?)(hs:w.heap.size<=w'.heap.size):ClsO w' g off l :=
 ⟨Nat.lt_of_lt_of_le h.lt hs,fun i hi=>(World.cell?_of_block hb).trans (h.m i hi),fun i hi=>(World.cell?_of_block hb).trans (h.y i hi),fun i hi=>(World.cell?_of_block hb).trans (h.n i hi)⟩
def ClsX (X:Nat->Prop)(w:World)(v:Value)(l:List ClaV):Prop :=
 (∃a cap,v=.slice a 0 cap/\l=[])\/∃b off cap,v=.slice (some ⟨b,off,none⟩) l.length cap/\X b/\l.length<=cap/\cap<=maxLen/\ClsO w b off l
section
variable {X:Nat->Prop} {w w':World} {v:Value} {l:List ClaV}
theorem ClsX.kept (h:ClsX X w v l)(hk:uN X w w')(hs:w.heap.size<=w'.heap.size):ClsX X w' v l:=by
 rcases h with h|⟨b,off,cap,h1,h2,h3,h4,h5⟩
 ·exact .inl h
 ·exact .inr ⟨b,off,cap,h1,h2,h3,h4,h5.of_block (hk b h2) hs⟩
theorem ClsX.mono {X':Nat->Prop}(h:ClsX X w v l)(hX:∀q,X q->X' q):ClsX X' w v l:=by
 rcases h with h|⟨b,off,cap,h1,h2,h3⟩
 ·exact .inl h
 ·exact .inr ⟨b,off,cap,h1,hX b h2,h3⟩
theorem ClsX.grow (h:ClsX X w v l)(hg:w.grownBy w' none):ClsX X w' v l:=by
 rcases h with h|⟨b,off,cap,h1,h2,h3,h4,h5⟩
 ·exact .inl h
 ·exact .inr ⟨b,off,cap,h1,h2,h3,h4,h5.of_block (hg.block _ h5.lt (by simp)) hg.size⟩
theorem ClsX.shape (h:ClsX X w v l):∃a c,v=.slice a l.length c:=by
 rcases h with ⟨a,c,rfl,rfl⟩|⟨b,off,cap,rfl,_⟩
 ·exact⟨a,c,rfl⟩
 ·exact⟨_,_,rfl⟩
theorem ClsX.len_le (h:ClsX X w v l):l.length<=maxLen:=by
 rcases h with ⟨a,c,rfl,rfl⟩|⟨b,off,cap,rfl,h1,h2,h3,_⟩
 ·exact Nat.zero_le _
 ·omega
theorem ClsX.at_ (h:ClsX X w v l)(h0:0<l.length):∃b off cap,v=.slice (some ⟨b,off,none⟩) l.length cap/\X b/\l.length<=cap/\cap<=maxLen/\ClsO w b off l:=by
 rcases h with ⟨a,c,rfl,rfl⟩|h
 ·simp at h0
 ·exact h
end
theorem kJ {X:Nat->Prop}{base:Nat}{w:World}{v:Value}{l:List ClaV}(h:w.ownsRow base 99 3 v l.length (sH l))(hX:∀k,v.ownBlock=some k->X k):ClsX X w v l:=by
 have h1:∀g j,(⟨g,0,none⟩:Addr).add j=⟨g,j,none⟩:=fun g j=>by unfold Addr.add;split<;>simp_all
 rcases h.2 with ⟨rfl,h0⟩|⟨g,cap,cur,rfl,hb,hg,hnc,hcm,_⟩
 ·exact .inl ⟨none,0,by first|rfl|rw[h0],List.eq_nil_of_length_eq_zero h0⟩
 ·refine .inr ⟨g,0,cap,rfl,hX g rfl,hnc,hcm,zK hg,fun i hi=>?_,fun i hi=>?_,fun i hi=>?_⟩
  ·have c1:=h.cells (g:=g) rfl _ _ (oA l i hi).1
   rw[h1]at c1;rw[zG hi,Nat.zero_add];exact c1
  ·have c1:=h.cells (g:=g) rfl _ _ (oA l i hi).2.1
   rw[h1]at c1;rw[zG hi,Nat.zero_add];exact c1
  ·have c1:=h.cells (g:=g) rfl _ _ (oA l i hi).2.2
   rw[h1]at c1;rw[zG hi,Nat.zero_add];exact c1
def numC (l:List ClaV)(m:List Bool):Option Nat:=if m∈l.map ClaV.m then some ((l.map ClaV.m).idxOf m) else none
theorem numC_of_mem {l:List ClaV}{m:List Bool}(h:m∈l.map ClaV.m):numC l m=some ((l.map ClaV.m).idxOf m):=if_pos h
theorem numC_not {l:List ClaV}{m:List Bool}(h:m ∉ l.map ClaV.m):numC l m=none:=if_neg h
theorem numC_snoc {l:List ClaV}{c:ClaV}(h:c.m ∉ l.map ClaV.m):(fun q=>if q=c.m then some l.length else numC l q)=numC (l++[c]):=by
 funext q;unfold numC;rw[List.map_append,List.map_singleton];by_cases e:q=c.m
 ·subst e
  rw[if_pos rfl,if_pos (by simp),List.idxOf_append,if_neg h];simp
 ·rw[if_neg e]
  by_cases hq:q∈l.map ClaV.m
  ·rw[if_pos hq,if_pos (List.mem_append_left _ hq),List.idxOf_append,if_pos hq]
  ·rw[if_neg hq,if_neg (fun h=>by
    rcases List.mem_append.1 h with h|h
    ·exact hq h
    ·simp at h;exact e h)]
theorem qEW {l:List ClaV}{n:Nat}{c:ClaV}(hn:n<l.length)(hm:c.m=(l.getD n default).m):numC (l.set n c)=numC l:=by
 have:(l.set n c).map ClaV.m=l.map ClaV.m:=by
  rw[List.map_set,hm,zG hn];refine List.ext_getElem (by simp) fun i h1 h2=>?_;rw[List.getElem_set]
  split
  ·rename_i e;subst e;simp
  ·rfl
 unfold numC;rw[this]
end Go.Proofs.Ytjfdomfendbhfaa
