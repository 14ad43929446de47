/- Part 41 of the proof: RDPos. -/
import Derived.Test.YtgbfaggnnfoamaaZi40
set_option linter.unusedVariables false
set_option linter.unusedSimpArgs false
namespace Go.Proofs.Ytgbfaggnnfoamaa
open Go.RowKit Go.Maps
theorem cellG {w w' : World} {p : Addr} {u : Value} (h : w.cell? p = some u) (hg : w.grownBy w' none) : w'.cell? p = some u := (World.cell?_of_block (hg.block p.block (World.block_lt_of_cell? w p h) (by simp))).trans h
set_option maxRecDepth 100000 in
set_option maxHeartbeats 4000000 in
theorem rd_pos {Q : Exit → Act → World → Prop} {v0 v1 v3 v4 v5 v6 v9 v10 v11 v12 v13 v14 v15 v16 v19 v20 v21 v22 v23 v24 v25 v26 v27 v28 v29 v30 v31 v32 v33 v34 v35 v36 v37 v38 v39 v40 v41 v42 v43 v44 v45 v46 v47 v48 v49 v50 v51 v52 v53 v54 v55 v56 v57 v58 v59 v60 v61 v62 v63 v64 v65 v66 v67 v68 v69 v70 v71 v72 v73 v74 v75 v76 v77 v78 v79 v80 v81 v82 v83 v84 v85 v86 v87 v88 v89 v90 v91 v92 v93 v94 v95 v96 v97 v98 v99 v100 v101 v102 v103 v104 v105 v106 v107 v108 v109 v110 v114 v115 v116 v117 v118 v119 v120 v121 v122 v123 v124 v125 v126 v127 v128 v129 v130 v131 v132 v133 v134 v135 v136 v137 v138 v139 v140 v141 v142 v143 v144 v145 v146 v147 v148 v149 v150 v151 v152 v153 v154 v155 v156 v157 v158 v159 v160 v161 v162 v163 v164 v165 v166 v167 v168 v169 v170 v171 v172 v173 v174 v175 v176 v177 v178 v179 v180 v181 v182 v183 v184 v185 v186 v187 v188 v189 v190 v191 v192 v193 v194 v195 v196 v197 v198 v199 v200 v201 v202 v203 v204 v205 v206 v207 v208 v209 v210 v211 v212 v213 v214 v215 v216 : Value} {w5 wA ws : World} {bs : List ByteArray} {L : List (List Nat)} {S : List Bool} {kb off cap P pb pc mb n k x G gi : Nat}
  (HL : Hid (L = bs.map zH)) (HLL : Hid (L.length = bs.length)) (HLP : Hid (∀ i, i < bs.length → lenP L i = (bs.getD i ⟨#[]⟩).size)) (HME : Hid (n = (xG L).length)) (HPV : Hid (zT bs k = 0))
  (HCX : Hid (RCtx w5 bs kb off cap pb pc mb n)) (HGR5 : Hid (w5.grownBy wA none)) (HPC5 : Hid (∀ W : World, w5.grownBy W none → W.cell? ⟨P, 0, none⟩ = some (.slice (some ⟨kb, off, none⟩) bs.length cap)))
  (HROW : Hid (Arr wA gi 4 (bls S))) (HSL : Hid (S.length = n)) (HGE : Hid (G = wA.heap.size)) (HA0 : Hid (Arr ws G 4 (bls (yD L n S x 0)))) (HGS : Hid (wA.grownBy ws none))
  (hlm' : bs.length ≤ 9223372036854775807) (hcm : cap ≤ 9223372036854775807) (hbc : bs.length ≤ cap) (hpc : n ≤ pc) (hpcx : pc ≤ 9223372036854775807) (hm : n ≤ 22) (hn0m : 0 < n) (hk6 : k ≤ 6) (hx : x < k)
  (hexit : ∀ (z19 z20 z21 z113 z114 z115 z116 z117 z118 z119 z120 z121 z122 z123 z124 z125 z126 z127 z128 z129 z130 z131 z132 z133 z134 z135 z136 z137 z138 z139 z140 z141 z142 z143 z144 z145 z146 z147 z148 z149 z150 z151 z152 z153 z154 z155 z156 z157 z158 z159 z160 z161 z162 z163 z164 z165 z166 z167 z168 z169 z170 : Value) (wr : World), Arr wr G 4 (bls (yD L n S x n)) → wA.grownBy wr none → Q .normal ⟨(v0 :: v1 :: (Value.pointer (some ⟨P, 0, none⟩)) :: v3 :: v4 :: v5 :: v6 :: (Value.slice (some ⟨pb, 0, none⟩) n pc) :: (Value.map (some mb)) :: v9 :: v10 :: v11 :: v12 :: v13 :: v14 :: v15 :: v16 :: (Value.int .i64 x) :: (Value.slice (some ⟨G, 0, none⟩) n n) :: z19 :: z20 :: z21 :: v22 :: v23 :: v24 :: v25 :: v26 :: v27 :: v28 :: v29 :: v30 :: v31 :: v32 :: v33 :: v34 :: v35 :: v36 :: v37 :: v38 :: v39 :: v40 :: v41 :: v42 :: v43 :: v44 :: v45 :: v46 :: v47 :: v48 :: v49 :: v50 :: v51 :: v52 :: v53 :: v54 :: v55 :: v56 :: v57 :: v58 :: v59 :: v60 :: v61 :: v62 :: v63 :: v64 :: v65 :: v66 :: v67 :: v68 :: v69 :: v70 :: v71 :: v72 :: v73 :: v74 :: v75 :: v76 :: v77 :: v78 :: v79 :: v80 :: v81 :: v82 :: v83 :: v84 :: v85 :: v86 :: v87 :: v88 :: v89 :: v90 :: v91 :: v92 :: v93 :: v94 :: v95 :: v96 :: v97 :: v98 :: v99 :: v100 :: v101 :: v102 :: v103 :: v104 :: v105 :: v106 :: v107 :: v108 :: v109 :: v110 :: (Value.slice (some ⟨gi, 0, none⟩) n n) :: (Value.int .i64 n) :: z113 :: z114 :: z115 :: z116 :: z117 :: z118 :: z119 :: z120 :: z121 :: z122 :: z123 :: z124 :: z125 :: z126 :: z127 :: z128 :: z129 :: z130 :: z131 :: z132 :: z133 :: z134 :: z135 :: z136 :: z137 :: z138 :: z139 :: z140 :: z141 :: z142 :: z143 :: z144 :: z145 :: z146 :: z147 :: z148 :: z149 :: z150 :: z151 :: z152 :: z153 :: z154 :: z155 :: z156 :: z157 :: z158 :: z159 :: z160 :: z161 :: z162 :: z163 :: z164 :: z165 :: z166 :: z167 :: z168 :: z169 :: z170 :: v171 :: v172 :: v173 :: v174 :: v175 :: v176 :: v177 :: v178 :: v179 :: v180 :: v181 :: v182 :: v183 :: v184 :: v185 :: v186 :: v187 :: v188 :: v189 :: v190 :: v191 :: v192 :: v193 :: v194 :: v195 :: v196 :: v197 :: v198 :: v199 :: v200 :: v201 :: v202 :: v203 :: v204 :: v205 :: v206 :: v207 :: v208 :: v209 :: v210 :: v211 :: v212 :: v213 :: v214 :: v215 :: v216 :: []).toArray, []⟩ wr) :
  Code.wp Try.prog (blk Try.f41 8) (Exit.inBlock 8 Q) ⟨(v0 :: v1 :: (Value.pointer (some ⟨P, 0, none⟩)) :: v3 :: v4 :: v5 :: v6 :: (Value.slice (some ⟨pb, 0, none⟩) n pc) :: (Value.map (some mb)) :: v9 :: v10 :: v11 :: v12 :: v13 :: v14 :: v15 :: v16 :: (Value.int .i64 x) :: (Value.slice (some ⟨G, 0, none⟩) n n) :: v19 :: v20 :: v21 :: v22 :: v23 :: v24 :: v25 :: v26 :: v27 :: v28 :: v29 :: v30 :: v31 :: v32 :: v33 :: v34 :: v35 :: v36 :: v37 :: v38 :: v39 :: v40 :: v41 :: v42 :: v43 :: v44 :: v45 :: v46 :: v47 :: v48 :: v49 :: v50 :: v51 :: v52 :: v53 :: v54 :: v55 :: v56 :: v57 :: v58 :: v59 :: v60 :: v61 :: v62 :: v63 :: v64 :: v65 :: v66 :: v67 :: v68 :: v69 :: v70 :: v71 :: v72 :: v73 :: v74 :: v75 :: v76 :: v77 :: v78 :: v79 :: v80 :: v81 :: v82 :: v83 :: v84 :: v85 :: v86 :: v87 :: v88 :: v89 :: v90 :: v91 :: v92 :: v93 :: v94 :: v95 :: v96 :: v97 :: v98 :: v99 :: v100 :: v101 :: v102 :: v103 :: v104 :: v105 :: v106 :: v107 :: v108 :: v109 :: v110 :: (Value.slice (some ⟨gi, 0, none⟩) n n) :: (Value.int .i64 n) :: (Value.int .i64 0) :: v114 :: v115 :: v116 :: v117 :: v118 :: v119 :: v120 :: v121 :: v122 :: v123 :: v124 :: v125 :: v126 :: v127 :: v128 :: v129 :: v130 :: v131 :: v132 :: v133 :: v134 :: v135 :: v136 :: v137 :: v138 :: v139 :: v140 :: v141 :: v142 :: v143 :: v144 :: v145 :: v146 :: v147 :: v148 :: v149 :: v150 :: v151 :: v152 :: v153 :: v154 :: v155 :: v156 :: v157 :: v158 :: v159 :: v160 :: v161 :: v162 :: v163 :: v164 :: v165 :: v166 :: v167 :: v168 :: v169 :: v170 :: v171 :: v172 :: v173 :: v174 :: v175 :: v176 :: v177 :: v178 :: v179 :: v180 :: v181 :: v182 :: v183 :: v184 :: v185 :: v186 :: v187 :: v188 :: v189 :: v190 :: v191 :: v192 :: v193 :: v194 :: v195 :: v196 :: v197 :: v198 :: v199 :: v200 :: v201 :: v202 :: v203 :: v204 :: v205 :: v206 :: v207 :: v208 :: v209 :: v210 :: v211 :: v212 :: v213 :: v214 :: v215 :: v216 :: []).toArray, []⟩ ws := by
 have hx' : (x : Int) < k := by omega
 conv => arg 2; whnf
 go_loopg [19, 20, 21, 113] n (fun gh s19 s20 s21 i wp => ∃ p : Nat, gh + p = n ∧ i = .int .i64 p ∧ Arr wp G 4 (bls (yD L n S x p)) ∧ wA.grownBy wp none)
 case atStart => exact ⟨0, rfl, rfl, HA0.out, HGS.out⟩
 case round =>
  clear HA0 HGS
  obtain ⟨p, hghp, rfl, harr, hgp⟩ := hrel
  have HGP := Kh hghp; have HA := Kh harr; have HGW := Kh hgp
  clear hghp
  have hgp5 := zB HGR5.out hgp (by simp)
  by_cases hp : p < n
  ·have hp' : (p : Int) < n := by omega
   have hctx := HCX.out.grow hgp5
   obtain ⟨bi, bk, hbi, hbk, hpe, hat, hlp, cx0, cx1, cu⟩ := hctx.at hp
   obtain ⟨u, hu⟩ : ∃ u, u = bs.getD bi ⟨#[]⟩ := ⟨_, rfl⟩
   rw [← hu] at hbk hlp cu
   obtain ⟨c, hc⟩ : ∃ c, c = S.getD p false := ⟨_, rfl⟩
   have c0 := (HROW.out.kept hgp (by simp)).bool p (by rw [HSL.out]; exact hp)
   rw [← hc] at c0
   have hbi' : (bi : Int) < bs.length := by omega
   rw [← HL.out] at hpe hat hlp
   have hus : u.size ≤ 22 := by
    have h9 := uH (bs := L) (i := bi) (k := lenP L bi) (by rw [HLL.out]; exact hbi) (Nat.le_refl _)
    rw [← HME.out, hlp] at h9
    omega
   have hbytes : ∀ i (hi : i < u.size), 97 ≤ u[i].toNat ∧ u[i].toNat - 97 < k := by
    rw [hu, zI hbi]
    have := (jL HPV.out).2.2.2.2.2.1 bi hbi
    exact (sS this).2.1
   have HPE2 := Kh hpe; have HAT := Kh hat; have HLP2 := Kh hlp; have HU := Kh hu; have HC := Kh hc; have HBY := Kh hbytes
   clear hpe hat hlp hu hc harr hgp hgp5 hctx hbytes
   go_upto_region 31 with fail
   have hg2 := World.grownBy_alloc wr (.cells #[.int .i64 (bi : Int), .int .i64 (bk : Int)] 86) none
   have hb2 := heap_alloc_new wr (.cells #[.int .i64 (bi : Int), .int .i64 (bk : Int)] 86)
   obtain ⟨v2, hv2⟩ : ∃ v2, v2 = wr.alloc (.cells #[.int .i64 (bi : Int), .int .i64 (bk : Int)] 86) := ⟨_, rfl⟩
   obtain ⟨A, hA⟩ : ∃ A, A = wr.heap.size := ⟨_, rfl⟩
   rw [← hv2, ← hA]
   rw [← hv2] at hg2 hb2
   rw [← hA] at hb2
   obtain ⟨d0, d1⟩ := wD hb2
   have hGA : G ≠ A := by have := HA.out.lt; omega
   have hgw2 := zB HGW.out hg2 (by simp)
   have hgp5 := zB HGR5.out hgw2 (by simp)
   have cu2 := xT ((HCX.out.grow hgp5).blk) bi hbi
   rw [← HU.out] at cu2
   have cP2 := HPC5.out _ hgp5
   have HA2 := Kh (HA.out.kept hg2 (by simp)); have HX2 := Kh (HCX.out.grow hgp5)
   have HGW2 : Hid (∀ w', v2.grownBy w' none → wA.grownBy w' none) := Kh (fun w' hg => zB hgw2 hg (by simp))
   have hTl := wR L n S x p
   have HTL := Kh hTl
   have ca0 := HA2.out.bool p (by rw [hTl]; exact hp)
   have fa0 := HA2.out.frozen p
   obtain ⟨o0, ho0⟩ : ∃ o0, o0 = (yD L n S x p).getD p false := ⟨_, rfl⟩
   rw [← ho0] at ca0
   have HSTP : Hid (c = true → yD L n S x (p + 1) = (if stP (bi, bk) then (if leP L (bi, bk) x then (yD L n S x p).set (p + 1) true else yD L n S x p).set p true else (if leP L (bi, bk) x then (yD L n S x p).set (p + 1) true else yD L n S x p))) := Kh (fun hcc => by
    show qT L S x p (yD L n S x p) = _
    rw [qT, if_pos (by rw [bitP, ← HC.out]; exact hcc), HAT.out])
   have HST0 : Hid (c = false → yD L n S x (p + 1) = yD L n S x p) := Kh (fun hcc => by
    show qT L S x p (yD L n S x p) = _
    rw [qT, if_neg (by rw [bitP, ← HC.out, hcc]; simp)])
   clear hv2 hA hg2 hb2 hgw2 hgp5 hTl ho0 c0 cx0 cx1 cu HA HGW
   cases c with
   | false =>
    have HNX := Kh (HST0.out rfl)
    clear HSTP HST0
    go_wp2
    go_roundg (n - (p + 1))
    case measure => have := HGP.out; omega
    case rel => exact ⟨p + 1, by have := HGP.out; omega, by go_num, by rw [HNX.out]; exact HA2.out, HGW2.out _ (zO _ _)⟩
   | true =>
    have HNX0 := Kh (HSTP.out rfl)
    clear HSTP HST0
    by_cases hlt : bk < u.size
    ·have hlt' : decide ((bk : Int) < (u.size : Int)) = true := by rw [decide_eq_true_eq]; omega
     obtain ⟨b0, a0, hb0, hw0, hm0, ha0, hl0⟩ := oT HBY.out hlt
     have HLE : Hid (leP L (bi, bk) x = (a0 == x)) := Kh (by
      have e1 : L.getD bi [] = zH u := by rw [HL.out, nthL_get hbi, nthL, ← HU.out]
      rw [leP, HLP2.out, decide_eq_true hlt, Bool.true_and, e1, hl0])
     clear hl0
     by_cases hax : a0 = x
     ·have hax' : ((a0 : Int) == (x : Int)) = true := by simp [hax]
      have HLV : Hid (leP L (bi, bk) x = true) := Kh (by rw [HLE.out]; simp [hax])
      have hnum := HX2.out.num (bi := bi) (bk := bk + 1) hbi (by rw [← HU.out]; exact hlt)
      rw [← HL.out, ← Nat.add_assoc, ← HPE2.out] at hnum
      have hp1 : p + 1 < n := hnum.2
      have hp1' : (p : Int) + 1 < n := by omega
      have hlk : ∀ qq, (Instr.lookup 84 (.map (some mb)) (.agg #[.int .i64 (bi : Int), .int .i64 ((bk : Int) + 1)]) false).run Try.prog (v2.drewN qq) = .ok (.int .i64 ((p : Int) + 1)) (v2.drewN qq) := fun qq => by
       have := ((HX2.out.grow (zJ v2 qq none)).num (bi := bi) (bk := bk + 1) hbi (by rw [← HU.out]; exact hlt)).1
       rw [← HL.out, ← Nat.add_assoc, ← HPE2.out] at this
       simpa [posV] using this
      have ca1 := HA2.out.bool (p + 1) (by rw [HTL.out]; exact hp1)
      have fa1 := HA2.out.frozen (p + 1)
      obtain ⟨o1, ho1⟩ : ∃ o1, o1 = (yD L n S x p).getD (p + 1) false := ⟨_, rfl⟩
      rw [← ho1] at ca1
      clear hnum ho1 hax
      by_cases hz : bk = 0
      ·have ez : ((bk : Int) == 0) = true := by simp [hz]
       have HZ := Kh hz
       by_cases hb0 : 0 < bi
       ·have eb : decide (0 < (bi : Int)) = true := by rw [decide_eq_true_eq]; omega
        have HSV : Hid (stP (bi, bk) = true) := Kh (by simp [stP, HZ.out, hb0])
        clear hz
        have HNX : Hid (yD L n S x (p + 1) = ((yD L n S x p).set (p + 1) true).set p true) := Kh (by rw [HNX0.out, HSV.out, HLV.out]; rfl)
        clear HNX0 HSV HLV
        go_wp2_with fail
        go_quiet (fail)
        go_wp2
        go_roundg (n - (p + 1))
        case measure => have := HGP.out; omega
        case rel =>
         have hgd := zJ v2 nq none
         have hA3 := HA2.out.kept hgd (by simp)
         refine ⟨p + 1, by have := HGP.out; omega, by go_num, ?_, ?_⟩
         ·rw [HNX.out]; exact (hA3.bool_set (p + 1) (by rw [HTL.out]; exact hp1) true).bool_set p (by rw [List.length_set, HTL.out]; exact hp) true
         ·exact zB (zB (HGW2.out _ hgd) (zC (v2.drewN nq) ⟨G, p + 1, none⟩ _) (fun y e => by have e : G = y := Option.some.inj e; have := HGE.out; omega)) (zC ((v2.drewN nq).setCell ⟨G, p + 1, none⟩ _) ⟨G, p, none⟩ _) (fun y e => by have e : G = y := Option.some.inj e; have := HGE.out; omega)
       ·have eb : decide (0 < (bi : Int)) = false := by rw [decide_eq_false_iff_not]; omega
        have HSV : Hid (stP (bi, bk) = false) := Kh (by simp [stP]; omega)
        clear hz
        have HNX : Hid (yD L n S x (p + 1) = (yD L n S x p).set (p + 1) true) := Kh (by rw [HNX0.out, HSV.out, HLV.out]; rfl)
        clear HNX0 HSV HLV
        go_wp2_with fail
        go_quiet (fail)
        go_wp2
        go_roundg (n - (p + 1))
        case measure => have := HGP.out; omega
        case rel =>
         have hgd := zJ v2 nq none
         have hA3 := HA2.out.kept hgd (by simp)
         refine ⟨p + 1, by have := HGP.out; omega, by go_num, ?_, ?_⟩
         ·rw [HNX.out]; exact hA3.bool_set (p + 1) (by rw [HTL.out]; exact hp1) true
         ·exact zB (HGW2.out _ hgd) (zC (v2.drewN nq) ⟨G, p + 1, none⟩ _) (fun y e => by have e : G = y := Option.some.inj e; have := HGE.out; omega)
      ·have ez : ((bk : Int) == 0) = false := by rw [beq_eq_false_iff_ne]; omega
       have HSV : Hid (stP (bi, bk) = false) := Kh (by simp [stP, hz])
       clear hz
       have HNX : Hid (yD L n S x (p + 1) = (yD L n S x p).set (p + 1) true) := Kh (by rw [HNX0.out, HSV.out, HLV.out]; rfl)
       clear HNX0 HSV HLV
       go_wp2_with fail
       go_quiet (fail)
       go_wp2
       go_roundg (n - (p + 1))
       case measure => have := HGP.out; omega
       case rel =>
        have hgd := zJ v2 nq none
        have hA3 := HA2.out.kept hgd (by simp)
        refine ⟨p + 1, by have := HGP.out; omega, by go_num, ?_, ?_⟩
        ·rw [HNX.out]; exact hA3.bool_set (p + 1) (by rw [HTL.out]; exact hp1) true
        ·exact zB (HGW2.out _ hgd) (zC (v2.drewN nq) ⟨G, p + 1, none⟩ _) (fun y e => by have e : G = y := Option.some.inj e; have := HGE.out; omega)
     ·have hax' : ((a0 : Int) == (x : Int)) = false := by rw [beq_eq_false_iff_ne]; omega
      have HLV : Hid (leP L (bi, bk) x = false) := Kh (by rw [HLE.out]; simp [hax])
      clear hax
      by_cases hz : bk = 0
      ·have ez : ((bk : Int) == 0) = true := by simp [hz]
       have HZ := Kh hz
       by_cases hb0 : 0 < bi
       ·have eb : decide (0 < (bi : Int)) = true := by rw [decide_eq_true_eq]; omega
        have HSV : Hid (stP (bi, bk) = true) := Kh (by simp [stP, HZ.out, hb0])
        clear hz
        have HNX : Hid (yD L n S x (p + 1) = (yD L n S x p).set p true) := Kh (by rw [HNX0.out, HSV.out, HLV.out]; rfl)
        clear HNX0 HSV HLV
        go_wp2_with fail
        go_quiet (fail)
        go_wp2
        go_roundg (n - (p + 1))
        case measure => have := HGP.out; omega
        case rel =>
         have hgd := zJ v2 nq none
         have hA3 := HA2.out.kept hgd (by simp)
         refine ⟨p + 1, by have := HGP.out; omega, by go_num, ?_, ?_⟩
         ·rw [HNX.out]; exact hA3.bool_set p (by rw [HTL.out]; exact hp) true
         ·exact zB (HGW2.out _ hgd) (zC (v2.drewN nq) ⟨G, p, none⟩ _) (fun y e => by have e : G = y := Option.some.inj e; have := HGE.out; omega)
       ·have eb : decide (0 < (bi : Int)) = false := by rw [decide_eq_false_iff_not]; omega
        have HSV : Hid (stP (bi, bk) = false) := Kh (by simp [stP]; omega)
        clear hz
        have HNX : Hid (yD L n S x (p + 1) = yD L n S x p) := Kh (by rw [HNX0.out, HSV.out, HLV.out]; rfl)
        clear HNX0 HSV HLV
        go_wp2_with fail
        go_quiet (fail)
        go_wp2
        go_roundg (n - (p + 1))
        case measure => have := HGP.out; omega
        case rel =>
         have hgd := zJ v2 nq none
         have hA3 := HA2.out.kept hgd (by simp)
         refine ⟨p + 1, by have := HGP.out; omega, by go_num, ?_, ?_⟩
         ·rw [HNX.out]; exact hA3
         ·exact HGW2.out _ hgd
      ·have ez : ((bk : Int) == 0) = false := by rw [beq_eq_false_iff_ne]; omega
       have HSV : Hid (stP (bi, bk) = false) := Kh (by simp [stP, hz])
       clear hz
       have HNX : Hid (yD L n S x (p + 1) = yD L n S x p) := Kh (by rw [HNX0.out, HSV.out, HLV.out]; rfl)
       clear HNX0 HSV HLV
       go_wp2_with fail
       go_quiet (fail)
       go_wp2
       go_roundg (n - (p + 1))
       case measure => have := HGP.out; omega
       case rel =>
        have hgd := zJ v2 nq none
        have hA3 := HA2.out.kept hgd (by simp)
        refine ⟨p + 1, by have := HGP.out; omega, by go_num, ?_, ?_⟩
        ·rw [HNX.out]; exact hA3
        ·exact HGW2.out _ hgd
    ·have hlt' : decide ((bk : Int) < (u.size : Int)) = false := by rw [decide_eq_false_iff_not]; omega
     have HLV : Hid (leP L (bi, bk) x = false) := Kh (by rw [leP, HLP2.out, decide_eq_false hlt, Bool.false_and])
     by_cases hz : bk = 0
     ·have ez : ((bk : Int) == 0) = true := by simp [hz]
      have HZ := Kh hz
      by_cases hb0 : 0 < bi
      ·have eb : decide (0 < (bi : Int)) = true := by rw [decide_eq_true_eq]; omega
       have HSV : Hid (stP (bi, bk) = true) := Kh (by simp [stP, HZ.out, hb0])
       clear hz
       have HNX : Hid (yD L n S x (p + 1) = (yD L n S x p).set p true) := Kh (by rw [HNX0.out, HSV.out, HLV.out]; rfl)
       clear HNX0 HSV HLV
       go_wp2_with fail
       go_quiet (fail)
       go_wp2
       go_roundg (n - (p + 1))
       case measure => have := HGP.out; omega
       case rel =>
        have hgd := zJ v2 nq none
        have hA3 := HA2.out.kept hgd (by simp)
        refine ⟨p + 1, by have := HGP.out; omega, by go_num, ?_, ?_⟩
        ·rw [HNX.out]; exact hA3.bool_set p (by rw [HTL.out]; exact hp) true
        ·exact zB (HGW2.out _ hgd) (zC (v2.drewN nq) ⟨G, p, none⟩ _) (fun y e => by have e : G = y := Option.some.inj e; have := HGE.out; omega)
      ·have eb : decide (0 < (bi : Int)) = false := by rw [decide_eq_false_iff_not]; omega
       have HSV : Hid (stP (bi, bk) = false) := Kh (by simp [stP]; omega)
       clear hz
       have HNX : Hid (yD L n S x (p + 1) = yD L n S x p) := Kh (by rw [HNX0.out, HSV.out, HLV.out]; rfl)
       clear HNX0 HSV HLV
       go_wp2_with fail
       go_quiet (fail)
       go_wp2
       go_roundg (n - (p + 1))
       case measure => have := HGP.out; omega
       case rel =>
        have hgd := zJ v2 nq none
        have hA3 := HA2.out.kept hgd (by simp)
        refine ⟨p + 1, by have := HGP.out; omega, by go_num, ?_, ?_⟩
        ·rw [HNX.out]; exact hA3
        ·exact HGW2.out _ hgd
     ·have ez : ((bk : Int) == 0) = false := by rw [beq_eq_false_iff_ne]; omega
      have HSV : Hid (stP (bi, bk) = false) := Kh (by simp [stP, hz])
      clear hz
      have HNX : Hid (yD L n S x (p + 1) = yD L n S x p) := Kh (by rw [HNX0.out, HSV.out, HLV.out]; rfl)
      clear HNX0 HSV HLV
      go_wp2_with fail
      go_quiet (fail)
      go_wp2
      go_roundg (n - (p + 1))
      case measure => have := HGP.out; omega
      case rel =>
       have hgd := zJ v2 nq none
       have hA3 := HA2.out.kept hgd (by simp)
       refine ⟨p + 1, by have := HGP.out; omega, by go_num, ?_, ?_⟩
       ·rw [HNX.out]; exact hA3
       ·exact HGW2.out _ hgd
  ·have hp' : ¬ (p : Int) < n := by omega
   have hpn : p = n := by have := HGP.out; omega
   have HAN : Hid (Arr wr G 4 (bls (yD L n S x n))) := Kh (by have h9 := harr; rw [hpn] at h9; exact h9)
   have HGW9 := Kh hgp
   clear harr hgp hgp5 hpn HA HGW
   go_wp2
   exact hexit _ _ _ _ _ _ _ _ _ _ _ _ _ _ _ _ _ _ _ _ _ _ _ _ _ _ _ _ _ _ _ _ _ _ _ _ _ _ _ _ _ _ _ _ _ _ _ _ _ _ _ _ _ _ _ _ _ _ _ _ _ _ HAN.out HGW9.out
end Go.Proofs.Ytgbfaggnnfoamaa
