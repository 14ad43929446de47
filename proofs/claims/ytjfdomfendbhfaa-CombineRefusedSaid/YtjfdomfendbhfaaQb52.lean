/- Part 52 of the proof: RFam7, RFam, Fam34, RVal33, RMatch, RMat2, RMat34, Half, MDfa, MOrd, MkInt, MPerm, StrL, MWords, MDef, MAny, OfC, KnW, RunD, CRfd, SomeLen. -/
import Derived.Test.YtjfdomfendbhfaaQb47
import Derived.Test.YtjfdomfendbhfaaQb48
import Derived.Test.YtjfdomfendbhfaaQb49
import Derived.Test.YtjfdomfendbhfaaQb50
import Derived.Test.YtjfdomfendbhfaaQb51
import Derived.Shelf.Vars
set_option linter.unusedVariables false
set_option linter.unusedSimpArgs false
namespace Go.Proofs.Ytjfdomfendbhfaa
open Go.RowKit
set_option maxRecDepth 100000 in
set_option maxHeartbeats 4000000 in
theorem rfam7_any (L K M : Nat) (w : World) (hl1 : 1 ≤ L) (hl6 : L ≤ 6) (hk1 : 1 ≤ K) (hk8 : K ≤ 8) (hm : M ≤ 4) :
  Calls Try.prog 45 #[.int .i64 7, .int .i64 L, .int .i64 K, .int .i64 M] w (yY w (famE 7 L K M) (famL 7 L K M)) := by
 have HML := Kh (yL w (L : Int))
 rw [decide_eq_true (show 1 ≤ (L : Int) ∧ (L : Int) ≤ 6 by omega)] at HML
 have ho : wI 7 L K M = true := by simp [wI]; omega
 have HO := Kh ho
 have HSZ := Kh (oW (kind := 7) (letters := L) (k := K) (m := M) (by decide) (by decide) hl1 (fun _ => by omega))
 have HRL := Kh (oZ (kind := 7) (letters := L) (k := K) (by decide) (by decide) M)
 have HGE := Kh (nI (kind := 7) (L := L) (K := K) M)
 have hm1 : (M : Int) ≤ 4 := by omega
 clear ho hm
 skip
 have HUB : Hid (∀ i, i ≤ K → (upTo L (i + 1)).length ≤ 20000000) := Kh (fun i hi => by have := vE L hl6 (i + 1) (by omega); omega)
 go_enter Try.func45, Try.ntmps45
 go_wp2_with fail
 refine HML.out.mono ?_
 rintro e w ⟨rfl, rfl⟩
 go_wp2
 go_loopg [11, 12, 13] K (fun gh vc vi vp wr => ∃ i : Nat, gh + i = K ∧ vc = .int .i64 (((upTo L (i + 1)).length : Nat) : Int) ∧ vi = .int .i64 (i : Int) ∧ vp = .int .i64 ((L ^ i : Nat) : Int) ∧ w = wr)
 case atStart => exact ⟨0, rfl, by rw [yU, List.length_append, xO]; simp [upTo], rfl, rfl, rfl⟩
 case round =>
  obtain ⟨i, hgh, rfl, rfl, rfl, rfl⟩ := hrel
  have HGH := Kh hgh
  clear hgh
  have hb1 := HUB.out i (by have := HGH.out; omega)
  by_cases hlt : i < K
  ·have hlt' : (i : Int) < (K : Int) := by omega
   have hb2 := HUB.out (i + 1) (by omega)
   have hst := wV L i
   rw [hst] at hb2
   have HST := Kh hst
   obtain ⟨CN, hCN⟩ : ∃ CN, CN = (upTo L (i + 1)).length := ⟨_, rfl⟩
   obtain ⟨PW, hPW⟩ : ∃ PW, PW = L ^ i := ⟨_, rfl⟩
   obtain ⟨P2, hP2⟩ : ∃ P2, P2 = L ^ i * L := ⟨_, rfl⟩
   have hmul : (PW : Int) * (L : Int) = (P2 : Int) := by rw [hP2, hPW]; push_cast; rfl
   have HS2 : Hid ((upTo L (i + 1 + 1)).length = CN + P2 ∧ L ^ (i + 1) = P2) := Kh ⟨by rw [HST.out, hCN, hP2], by rw [hP2, Nat.pow_succ]⟩
   rw [← hP2, ← hCN] at hb2
   rw [← hCN, ← hPW]
   clear hst hCN hPW hP2 hb1
   go_wp2
   go_roundg (K - (i + 1))
   case measure => have := HGH.out; omega
   case rel => exact ⟨i + 1, by have := HGH.out; omega, by rw [HS2.out.1]; go_num, by go_num, by rw [HS2.out.2], rfl⟩
  ·obtain rfl : i = K := by have := HGH.out; omega
   clear hlt HUB
   obtain ⟨ws, hws⟩ : ∃ ws, ws = yQ L i := ⟨_, rfl⟩
   have HWS := Kh hws
   have hwe : upTo L (i + 1) = ws := hws.symm
   rw [hwe] at hb1 ⊢
   have HGE2 : Hid (ws.length ≤ (famP 7 L i M).length + 1) := Kh (by rw [hws]; exact HGE.out)
   have hw1 : 1 ≤ ws.length := by rw [hws]; exact rD hl1
   have H2W : Hid (1 ≤ i → 2 ≤ ws.length) := Kh (fun h => by rw [hws]; exact qG hl1 h)
   have HWN : Hid (∀ r (h : r < ws.length), (ws[r] = [] ↔ r = 0)) := Kh (by subst hws; exact fun r h => vV h)
   have HW8 : Hid (∀ u ∈ ws, u.length ≤ 8) := Kh (by subst hws; exact fun u hu => tE hk8 hu)
   have HOW : Hid (∀ u ∈ ws, okW u) := Kh (by subst hws; exact fun u hu => okB hl6 (n := i + 1) hu)
   have HUP : Hid (ws.length ≤ 301 → Calls Try.prog 76 #[.int .i64 L, .int .i64 i] w (kB w ws)) := Kh (fun h => by rw [← hwe]; exact qF L i w hl1 hl6 hk8 (by rw [hwe]; omega))
   clear hws hwe
   by_cases hbig : 300 < (ws.length : Int) - 1
   ·have h3 := wX HO.out (.inr (HSZ.out.2 (by have := HGE2.out; omega)))
    have H3 := Kh h3
    clear h3
    go_wp2
    refine bodyPost_ret (v := .tuple #[.slice none 0 0, .int .i64 3]) (by simp [results, Try.results45, go_sem]) rfl ?_
    rw [H3.out.1, H3.out.2]
    exact yY.nil (zL _ _)
   have HUP2 := Kh (HUP.out (by omega))
   clear HUP
   go_wp2_with fail
   refine HUP2.out.mono ?_
   rintro e w1 ⟨sa, sc, rfl, hrow, hg1⟩
   obtain ⟨b, off, rfl, hc1, hc2⟩ := vZ hrow (by omega)
   have hc3 : sc ≤ 9223372036854775807 := by unfold maxLen at hc2; omega
   have hw301 : ws.length ≤ 301 := by omega
   clear HUP2 hc2 hbig
   obtain ⟨ba, hba⟩ : ∃ ba, ba = w1.heap.size := ⟨_, rfl⟩
   rw [← hba] at hrow
   have hbz : ba ≤ w1.heap.size := by omega
   have hwba : w.heap.size ≤ ba := by rw [hba]; exact hg1.size
   clear hba
   go_wp2
   go_loopw [15, 90] (fun v iv wr => ∃ (j n : Nat) (sl : Option Addr) (c : Nat) (svs : List Value), iv = .int .i64 (j : Int) ∧ j ≤ ws.length ∧ v = .slice sl n c ∧
     LUp 28 ba wr (.slice sl n c) n svs (genL 7 i (ws.take j)) ∧ RowT ba 9 wr (.slice (some ⟨b, off, none⟩) ws.length sc) (strs ws) ∧ w.grownBy wr none ∧ ba ≤ wr.heap.size)
    (fun _ iv _ => ws.length - (intOf iv).toNat)
   case atStart => exact ⟨0, 0, none, 0, [], rfl, Nat.zero_le _, rfl, by simpa [genL] using LUp.nil (by decide) _ _, hrow, hg1, hbz⟩
   case round =>
    clear hrow hg1 hbz
    obtain ⟨j, n, sl, c, svs, rfl, hj, rfl, hlp, hT, hg, hbz⟩ := hrel
    obtain ⟨wo, rfl⟩ : ∃ wo : World, wo = wr := ⟨_, rfl⟩
    have hn : n ≤ 1600 := by
     have h1 := hlp.len
     have h2 := rM 7 i (ws.take j)
     rw [List.length_take] at h2; omega
    have HLP := Kh hlp
    clear hlp
    by_cases hlt : j < ws.length
    ·have hlt' : (j : Int) < ws.length := by omega
     have hcell := uE hT hlt
     have hu8 := HW8.out _ (List.getElem_mem hlt)
     have hsn := sR 7 i hlt
     obtain ⟨u, hu2⟩ : ∃ u, u = ws[j] := ⟨_, rfl⟩
     rw [← hu2] at hcell hu8 hsn
     rw [genU_7] at hsn
     have HU := Kh hu2; have HSN := Kh hsn
     clear hu2 hsn
     have hsu : (strOfNums u).size = u.length := strOfNums_size u
     have hemp := lX u
     by_cases he : u = []
     ·have hemp2 : (strOfNums u).toList.isEmpty = true := by rw [hemp, he]; rfl
      clear hemp
      have HEM := Kh he
      clear he
      have hol := HLP.out.own.alloc (.cells #[.string (strOfNums u)] 9)
      go_wp2_with (at_builtin; refine app1 rfl (.tmp 110) (.tmp 114) _ rfl yN ba _ n svs rfl hol _ (by rw [zJ]; rfl) rfl ?c1 ?c2 ?c3 ?_)
      case c1 => unfold maxLen; omega
      case c2 => omega
      case c3 => first | omega | (rw [zJ]; omega)
      intro sl1 c1 wp1 hown3 hg3 _
      obtain ⟨hp3, hg4⟩ := (PatsUp.mk HLP.out.own HLP.out.rows).push (us := oneB u) (cs := #[.string (strOfNums u)]) (q := 1) rfl rfl (by unfold maxLen; omega) hown3 hg3
      have hb3 := fun q (e : (Value.slice sl n c).ownBlock = some q) => (HLP.out.own.lt q e).1
      have hT' := hT.kept hg4 (fun q e => .inl (hb3 q e))
      have hg' := zA hg hg4 (fun q e => by have := hb3 q e; omega)
      have hbz' : ba ≤ wp1.heap.size := by have := hg4.size; omega
      have HLP' := Kh (LUp.ofPats hp3)
      clear hown3 hg3 hol hg4 hp3 hT hg hb3 hbz HLP hcell
      have hT := hT'; have hg := hg'; have hbz := hbz'; have HLP := HLP'
      clear hT' hg' hbz' HLP'
      obtain ⟨svs1, hsv⟩ : ∃ svs1, svs1 = svs ++ [Value.slice (some ⟨wo.heap.size, 0, none⟩) 1 1] := ⟨_, rfl⟩
      rw [← hsv] at HLP
      clear hsv
      go_wp2
      go_roundw
      case rel => exact ⟨j + 1, _, sl1, c1, _, by go_num, by omega, rfl, by rw [HSN.out]; simpa using HLP.out, hT, hg, hbz⟩
      case measure => simp [intOf]; omega
     ·have hemp2 : (strOfNums u).toList.isEmpty = false := by rw [hemp, List.isEmpty_eq_false_iff]; exact he
      clear hemp
      have HEM := Kh he
      clear he
      have hol := HLP.out.own.alloc (.cells #[.string (strOfNums u)] 9)
      go_wp2_with (at_builtin; refine app1 rfl (.tmp 110) (.tmp 114) _ rfl yN ba _ n svs rfl hol _ (by rw [zJ]; rfl) rfl ?c1 ?c2 ?c3 ?_)
      case c1 => unfold maxLen; omega
      case c2 => omega
      case c3 => first | omega | (rw [zJ]; omega)
      intro sl1 c1 wp1 hown3 hg3 _
      obtain ⟨hp3, hg4⟩ := (PatsUp.mk HLP.out.own HLP.out.rows).push (us := oneB u) (cs := #[.string (strOfNums u)]) (q := 1) rfl rfl (by unfold maxLen; omega) hown3 hg3
      have hb3 := fun q (e : (Value.slice sl n c).ownBlock = some q) => (HLP.out.own.lt q e).1
      have hT' := hT.kept hg4 (fun q e => .inl (hb3 q e))
      have hg' := zA hg hg4 (fun q e => by have := hb3 q e; omega)
      have hbz' : ba ≤ wp1.heap.size := by have := hg4.size; omega
      have HLP' := Kh (LUp.ofPats hp3)
      clear hown3 hg3 hol hg4 hp3 hT hg hb3 hbz HLP hcell
      have hT := hT'; have hg := hg'; have hbz := hbz'; have HLP := HLP'
      clear hT' hg' hbz' HLP'
      obtain ⟨svs1, hsv⟩ : ∃ svs1, svs1 = svs ++ [Value.slice (some ⟨wo.heap.size, 0, none⟩) 1 1] := ⟨_, rfl⟩
      rw [← hsv] at HLP
      clear hsv
      go_wp2
      go_roundw
      case rel => exact ⟨j + 1, _, sl1, c1, _, by go_num, by omega, rfl, by rw [HSN.out]; simpa using HLP.out, hT, hg, hbz⟩
      case measure => simp [intOf]; omega
    ·obtain rfl : j = ws.length := by omega
     rw [List.take_length] at HLP
     have HREF : Hid (refL 7 L i M = genL 7 i ws ++ (allC ws (M + 1)).take 301) := Kh (by rw [refL, HWS.out]; rfl)
     clear hlt hj
     have HCH := Kh (rchains_any ba wo (.slice (some ⟨b, off, none⟩) ws.length sc) ws M hbz hT (by omega) (H2W.out (by omega)) hw301 ((HWN.out 0 (by omega)).2 rfl) (fun r h h1 e => by have := (HWN.out r h).1 e; omega))
     obtain ⟨CH, hCH⟩ : ∃ CH, CH = (allC ws (M + 1)).take 301 := ⟨_, rfl⟩
     rw [← hCH] at HREF HCH
     have hch : CH.length ≤ 301 := by rw [hCH, List.length_take]; omega
     clear hCH
     go_wp2_with fail
     refine HCH.out.mono ?_
     rintro e w2 ⟨sb, cb, svb, rfl, hrb, hrsb, hg2⟩
     have hlp2 := HLP.out.kept hg2 (by simp)
     have hlb := hrsb.1
     have HONE : Hid (∀ x ∈ svb, x.oneCell' = true) := Kh hrsb.one
     have hz2 := hg2.size
     go_wp2_with (at_builtin; refine appR rfl (.tmp 184) (.tmp 187) _ rfl yN ba _ n svs rfl hlp2.own _ svb rfl ⟨_, hrb.row⟩ HONE.out (n + CH.length) ?a1 ?a2 ?a3 ?a4 ?_)
     case a1 => omega
     case a2 => unfold maxLen; omega
     case a3 => omega
     case a4 => omega
     intro sl2 c2 w3 hown3 hg3
     obtain ⟨hp3, hg4⟩ := HLP.out.cat hg2 hrsb hown3 hg3
     have hg5 := zA hg hg4 (fun q e => by have := (HLP.out.own.lt q e).1; omega)
     have HLP2 := Kh hp3
     clear hlp2 hrb hrsb hown3 hg3 hg4 hp3 hT hg hg2 HLP hbz hz2 HONE
     have HLP := HLP2; have hg := hg5
     clear HLP2 hg5
     obtain ⟨m, hm9⟩ : ∃ m, m = n + CH.length := ⟨_, rfl⟩
     rw [← hm9] at HLP ⊢
     clear hm9 hlb hch
     obtain ⟨sv9, hsv⟩ : ∃ sv9, sv9 = svs ++ svb := ⟨_, rfl⟩
     rw [← hsv] at HLP
     clear hsv HCH
     rw [← HREF.out] at HLP
     obtain ⟨RL, hRL⟩ : ∃ RL, RL = refL 7 L i M := ⟨_, rfl⟩
     have HRLE := Kh hRL
     rw [← hRL] at HLP
     clear hRL HREF
     have hnl := HLP.out.len
     by_cases hlim : 300 < m
     ·have hlim' : (300 : Int) < (m : Int) := by omega
      have H3 := Kh (wX HO.out (.inr (HSZ.out.2 (HRL.out.1 (by rw [← HRLE.out]; omega)))))
      clear hlim
      go_wp2
      refine bodyPost_ret (v := .tuple #[.slice none 0 0, .int .i64 3]) (by simp [results, Try.results45, go_sem]) rfl ?_
      rw [H3.out.1, H3.out.2]
      exact yY.nil hg
     have hlim' : ¬ (300 : Int) < (m : Int) := by omega
     have HFS := Kh (tA HO.out (fun h => absurd h.1 (by decide)) (fun h => by have := HRL.out.2 (HSZ.out.1 h); rw [← HRLE.out] at this; omega))
     have HND : Hid RL.Nodup := Kh (by rw [HRLE.out]; exact sK (by decide) (by decide) (by rw [← HRLE.out]; omega))
     have HFIN : Hid (∀ ps, wS ps → ps.Perm RL → ps = famP 7 L i M) := Kh (fun ps h1 h2 => uW (by decide) (by decide) (by rw [← HRLE.out]; omega) h1 (by rw [← HRLE.out]; exact h2))
     have HOK : Hid (∀ p ∈ RL, okP p) := Kh (fun p hp => by rw [HRLE.out] at hp; exact nA hl6 hk8 (by omega) hp)
     have hN300 : m ≤ 300 := by omega
     have HNL := Kh hnl
     clear hlim hnl HRLE
     obtain ⟨NL, hNL⟩ : ∃ NL, NL = m := ⟨_, rfl⟩
     rw [← hNL] at HLP HNL hN300 hlim' ⊢
     clear hNL
     obtain ⟨SL, hSL⟩ : ∃ SL, SL = sl2 := ⟨_, rfl⟩
     rw [← hSL] at HLP ⊢
     clear hSL
     obtain ⟨SC, hSC⟩ : ∃ SC, SC = c2 := ⟨_, rfl⟩
     rw [← hSC] at HLP ⊢
     clear hSC
     go_wp2
     go_loopg [194] NL (fun gh iv wx => ∃ (q : Nat) (sv : List Value) (ps : List (List (List Int))), gh + q = NL ∧ iv = .int .i64 (q : Int) ∧ LUp 28 ba wx (.slice SL NL SC) NL sv ps ∧ Hid (wS (ps.take q) ∧ ps.Perm RL) ∧ w.grownBy wx none)
     case atStart => exact ⟨0, _, _, rfl, rfl, HLP.out, Kh ⟨by simp [wS], List.Perm.refl _⟩, hg⟩
     case round =>
      clear HLP hg
      obtain ⟨q, sv, ps, hgh, rfl, hlp, hso, hg⟩ := hrel
      obtain ⟨wa, rfl⟩ : ∃ wa : World, wa = wr := ⟨_, rfl⟩
      have HGH := Kh hgh; have HLP := Kh hlp
      clear hgh
      by_cases hq : q < NL
      ·have hq' : (q : Int) < (NL : Int) := by omega
       rcases id hlp.own.2 with ⟨_, e2⟩ | ⟨g, cap, cur, e1, hgb, _, hnc, hcm, _, _⟩
       ·omega
       simp only [Value.slice.injEq] at e1
       obtain ⟨rfl, _, rfl⟩ := e1
       have hSC3 : SC ≤ 9223372036854775807 := by unfold maxLen at hcm; omega
       have hwg : w.heap.size ≤ g := by omega
       have HIN : Hid (InsI RL ps q q) := Kh (sQ hso.out.1 (by have := hlp.len; omega) hso.out.2)
       clear hlp hso hcm
       go_wp2
       go_loopg [21] q (fun gh jv wx => ∃ (j : Nat) (sv : List Value) (ps : List (List (List Int))), j = gh ∧ j ≤ q ∧ jv = .int .i64 (j : Int) ∧ LUp 28 ba wx (.slice (some ⟨g, 0, none⟩) NL SC) NL sv ps ∧ Hid (InsI RL ps q j) ∧ w.grownBy wx none)
       case atStart => exact ⟨q, sv, ps, rfl, Nat.le_refl _, rfl, HLP.out, HIN, hg⟩
       case round =>
        clear HLP HIN hg
        obtain ⟨j, sv, ps, rfl, hjq, rfl, hlp, hin, hg⟩ := hrel
        obtain ⟨wb, rfl⟩ : ∃ wb : World, wb = wr := ⟨_, rfl⟩
        by_cases hj0 : j = 0
        ·subst hj0
         have HLP := Kh hlp
         clear hlp
         go_wp2
         go_quiet (fail)
         go_wp2
         go_roundg (NL - (q + 1))
         case measure => have := HGH.out; omega
         case rel => exact ⟨q + 1, sv, ps, by have := HGH.out; omega, by go_num, HLP.out.kept (zT wb _ none) (by simp), Kh (vC hin.out HND.out (.inl rfl)), zA hg (zT wb _ none) (by simp)⟩
        ·obtain ⟨k, hjk⟩ : ∃ k, j = k + 1 := ⟨j - 1, by omega⟩
         obtain ⟨a1, d1, p1, hs1, hp1, hc1', hr1⟩ := hlp.at (i := k) (by omega)
         obtain ⟨a2, d2, p2, hs2, hp2, hc2', hr2⟩ := hlp.at (i := j) (by omega)
         obtain ⟨A0, x0, B0, C0, hps0, _, _, _, _, hperm⟩ := hin.out
         have ho1 := HOK.out p1 (hperm.mem_iff.1 (List.mem_of_getElem? hp1))
         have ho2 := HOK.out p2 (hperm.mem_iff.1 (List.mem_of_getElem? hp2))
         clear hps0 hperm
         have hgd : wb.grownBy wb.drew none := zP wb none
         have HLE := Kh (qR wb.heap.size wb.heap.size wb.drew (.slice a2 p2.length d2) (.slice a1 p1.length d1) p2 p1 (hr2.kept hgd (by simp)).row (hr1.kept hgd (by simp)).row ho2.2 ho1.2 ho2.1 ho1.1)
         have HLP := Kh hlp
         have hk0 : (0 : Int) < (j : Int) := by omega
         have hk0n : 0 < j := by omega
         have hd1 : decide ((0 : Int) < (j : Int)) = true := decide_eq_true hk0
         have hd2 : decide (0 < j) = true := decide_eq_true hk0n
         have hkn : (j : Int) < (NL : Int) := by omega
         have hkn2 : (k : Int) < (NL : Int) := by omega
         have hwk : IntKind.i64.wrap ((j : Int) - 1) = (k : Int) := by rw [IntWalk.i64_in _ (by omega)]; omega
         have hwk2 : IntKind.i64.wrap (k : Int) = (k : Int) := IntWalk.i64_in _ (by omega)
         have hk00 : (0 : Int) ≤ (k : Int) := by omega
         have hk300 : (k : Int) ≤ 300 := by omega
         have hsub : (j : Int) - 1 = (k : Int) := by omega
         have HJK := Kh hjk
         have HCC : Hid (∀ W, wb.drew.grownBy W none → W.cell? ⟨g, j, none⟩ = some (.slice a2 p2.length d2) ∧ W.cell? ⟨g, k, none⟩ = some (.slice a1 p1.length d1)) := Kh (fun W hW => ⟨zQ (zQ hc2' hgd) hW, zQ (zQ hc1' hgd) hW⟩)
         obtain ⟨n2, hn2⟩ : ∃ n2, n2 = p2.length := ⟨_, rfl⟩
         obtain ⟨n1, hn1⟩ : ∃ n1, n1 = p1.length := ⟨_, rfl⟩
         rw [← hn1] at hs1 hc1' HLE HCC
         rw [← hn2] at hs2 hc2' HLE HCC
         have HS1 := Kh hs1; have HS2 := Kh hs2; have HP1 := Kh hp1; have HP2 := Kh hp2
         clear hlp hr1 hr2 ho1 ho2 hs1 hs2 hp1 hp2 hn1 hn2 hjk hj0
         cases hle : xS p2 p1 with
         | false =>
          rw [hle] at HLE
          have HDN := Kh (vC hin.out HND.out (.inr ⟨k, p1, p2, HJK.out, HP1.out, by rw [← HJK.out]; exact HP2.out, hle⟩))
          clear hle hin
          go_wp2
          go_region_held3 (fun W => W.cell? ⟨g, j, none⟩ = some (.slice a2 n2 d2) ∧ W.cell? ⟨g, k, none⟩ = some (.slice a1 n1 d1))
           (first | go_keep | exact HCC.out _ hG7 | fail)
           (first | (go_at_call 78; (with_reducible refine HLE.out.mono ?_); rintro e w7 ⟨rfl, hG7⟩) | fail)
          go_wp2
          go_roundg (NL - (q + 1))
          case measure => have := HGH.out; omega
          case rel => exact ⟨q + 1, sv, ps, by have := HGH.out; omega, by go_num, (HLP.out.kept hgd (by simp)).kept hG7 (by simp), HDN, zA (zA hg hgd (by simp)) hG7 (by simp)⟩
         | true =>
          rw [hle] at HLE
          have HST := Kh (qS (by rw [← HJK.out]; exact hin.out) HP1.out (by rw [← HJK.out]; exact HP2.out) hle)
          clear hle hin
          go_wp2
          go_region_held3 (fun W => W.cell? ⟨g, j, none⟩ = some (.slice a2 n2 d2) ∧ W.cell? ⟨g, k, none⟩ = some (.slice a1 n1 d1))
           (first | go_keep | exact HCC.out _ hG7 | fail)
           (first | (go_at_call 78; (with_reducible refine HLE.out.mono ?_); rintro e w7 ⟨rfl, hG7⟩) | fail)
          have hlp7 := (HLP.out.kept hgd (by simp)).kept hG7 (by simp)
          have hg7 := zA (zA hg hgd (by simp)) hG7 (by simp)
          have k1 := zQ (zQ hc1' hgd) hG7
          have k2 := zQ (zQ hc2' hgd) hG7
          rcases id hlp7.own.2 with ⟨e1, _⟩ | ⟨g', cap, cur, e1, _, hgk, _, _, _, _⟩
          ·simp at e1
          simp only [Value.slice.injEq, Option.some.injEq, Addr.mk.injEq, and_true] at e1
          obtain ⟨rfl, _, rfl⟩ := e1
          have f1 := frozen_of_row w7 g k _ _ hgk
          have f2 := frozen_of_row w7 g j _ _ hgk
          have HLP7 := Kh hlp7; have HG7 := Kh hg7; have HGK := Kh hgk
          clear hlp7 hg7 hgk hg hgd hG7 hc1' hc2' HLP HLE
          go_wp2
          go_region
          all_goals
           go_wp2
           go_roundg k
           case measure => have := HJK.out; omega
           case rel =>
            have e9 := HJK.out
            subst e9
            obtain ⟨hsw, hgs⟩ := HLP7.out.drewN.swap HS1.out HS2.out HP1.out HP2.out (W := _) (by first | exact .inl rfl | exact .inr rfl)
            exact ⟨k, _, _, rfl, by omega, by go_num, hsw, HST, zA (zA HG7.out (zP w7 none) (by simp)) hgs (fun x e => by have : g = x := Option.some.inj e; omega)⟩
      ·obtain rfl : q = NL := by have := HGH.out; omega
       have hpl := hlp.len
       have hps : ps = famP 7 L i M := HFIN.out ps (by have := hso.out.1; rwa [hpl, List.take_length] at this) hso.out.2
       have HPS := Kh hps; have HPL := Kh hpl
       clear hps hpl hlp hso
       go_wp2
       refine bodyPost_ret (v := .tuple #[.slice SL q SC, .int .i64 0]) (by simp [results, Try.results45, go_sem]) rfl ?_
       rw [HFS.out.1, HFS.out.2, ← HPS.out]
       exact ⟨SL, SC, sv, by rw [← HPL.out], by rw [← HPL.out]; exact RowT.of_owns HLP.out.own, HLP.out.rows, hg⟩
theorem rfamily_any (kind letters k m : Int) (w : World) :
  Calls Try.prog 45 #[.int .i64 kind, .int .i64 letters, .int .i64 k, .int .i64 m] w (yY w (famE kind letters k m) (famL kind letters k m)) := by
 cases ho : wI kind letters k m with
 | false =>
  have e1 : famE kind letters k m = 1 := by rw [famE, if_pos ho]
  have e2 : famL kind letters k m = [] := by rw [famL, e1]; rfl
  rw [e1, e2]
  exact rfam_err _ _ _ _ _ ho
 | true =>
  simp only [wI, decide_eq_true_eq] at ho
  obtain ⟨hk1, hk7, hl1, hl6, hk, hk8, hm⟩ := ho
  have hm0 : 0 ≤ m ∧ m ≤ 4 := by split at hm <;> omega
  have hk0 : 0 ≤ k := by split at hk <;> omega
  obtain ⟨L, rfl⟩ : ∃ L : Nat, letters = (L : Int) := ⟨letters.toNat, by omega⟩
  obtain ⟨K, rfl⟩ : ∃ K : Nat, k = (K : Int) := ⟨k.toNat, by omega⟩
  obtain ⟨M, rfl⟩ : ∃ M : Nat, m = (M : Int) := ⟨m.toNat, by omega⟩
  have hcase : kind = 1 ∨ kind = 2 ∨ kind = 3 ∨ kind = 4 ∨ kind = 5 ∨ kind = 6 ∨ kind = 7 := by omega
  rcases hcase with rfl | rfl | rfl | rfl | rfl | rfl | rfl
  ·exact rfam1_any L K M w (by omega) (by omega) (by omega) (by omega) (by simp at hm; omega)
  ·exact rfam2_any L K M w (by omega) (by omega) (by simp at hk; omega) (by omega) (by simp at hm; omega)
  ·exact rfam3_any L K M w (by omega) (by omega) (by simp at hk; omega) (by omega) (by simp at hm; omega)
  ·exact rfam4_any L K M w (by omega) (by omega) (by simp at hk; omega) (by omega) (by simp at hm; omega)
  ·exact rfam5_any L K M w (by omega) (by omega) (by simp at hk; omega) (by omega) (by simp at hm; omega)
  ·exact rfam6_any L K M w (by omega) (by omega) (by simp at hk; omega) (by omega) (by simp at hm; omega)
  ·exact rfam7_any L K M w (by omega) (by omega) (by simp at hk; omega) (by omega) (by omega)
end Go.Proofs.Ytjfdomfendbhfaa
namespace Go.Proofs.Ytjfdomfendbhfaa
open Go.RowKit Go.Maps
def famSm (l : List (List (List Int))) : Bool := decide (l.length ≤ 300) && l.all fun p => decide ((p.map List.length).sum ≤ 8 ∧ p.length ≤ 8)
theorem fam_small : ∀ kind ∈ [1, 2, 3, 4, 5, 6, 7], ∀ letters ∈ [1, 2], ∀ k ∈ [1, 2], famSm (famL kind letters k 0) = true := by decide +kernel
theorem sum_get {p : List (List Int)} : ∀ u ∈ p, u.length ≤ (p.map List.length).sum := by
 induction p with
 | nil => intro u hu; simp at hu
 | cons a p ih =>
  intro u hu
  rw [List.map_cons, List.sum_cons]
  rcases List.mem_cons.1 hu with rfl | hu
  ·omega
  ·have := ih u hu; omega
def FamD (w : World) (v : Value) (L : List (List (List Int))) : Prop := famSm L = true ∧ ∃ svs, RowT w.heap.size 28 w v svs ∧ wL w.heap.size 9 strs w svs L ∧ ∃ sa sc, v = .slice sa L.length sc
theorem FamD.kept {w w' : World} {v : Value} {L : List (List (List Int))} {row : Option Nat} (h : FamD w v L) (hg : w.grownBy w' row) (hr : ∀ k, row = some k → zY w 28 k ∧ zY w 9 k) : FamD w' v L := by
 obtain ⟨h1, svs, h2, h3, h4⟩ := h
 exact ⟨h1, svs, (h2.kept hg (fun k e => .inr (hr k e).1)).mono hg.size, (h3.kept hg (fun k e => .inr (hr k e).2)).mono hg.size, h4⟩
theorem FamD.pats {w : World} {v : Value} {L : List (List (List Int))} (h : FamD w v L) : vJ w.heap.size w v (famB L) := by
 obtain ⟨h1, svs, h2, h3, h4⟩ := h
 refine nB h2 h3 (fun p hp u hu => ?_)
 simp only [famSm, Bool.and_eq_true, decide_eq_true_eq, List.all_eq_true] at h1
 have := (h1.2 p hp).1
 have := sum_get u hu
 omega
theorem famB_total {p : List (List Int)} : sZ (p.map strOfNums) = (p.map List.length).sum := by
 unfold sZ
 induction p with
 | nil => rfl
 | cons a p ih =>
  rw [List.map_cons, List.map_cons, List.sum_cons]
  simp only [List.map_cons, List.sum_cons, List.foldl_cons] at ih ⊢
  first | (rw [← ih, strOfNums_size]) | (simp [strOfNums_size, ih])
theorem famSm_facts {L : List (List (List Int))} (h : famSm L = true) : (famB L).length ≤ 300 ∧ ∀ p ∈ famB L, sZ p ≤ 8 := by
 simp only [famSm, Bool.and_eq_true, decide_eq_true_eq, List.all_eq_true] at h
 refine ⟨by rw [qW]; exact h.1, fun p hp => ?_⟩
 obtain ⟨q, hq, rfl⟩ := List.mem_map.1 hp
 rw [famB_total]; exact (h.2 q hq).1
theorem tape_other {B : Nat} {w : World} {tb : Nat} (h : xC B w tb) : ∀ k, some tb = some k → zY w 28 k ∧ zY w 9 k := fun k e => by
 have e : tb = k := Option.some.inj e
 subst e
 obtain ⟨sl, zs, n, hb, _⟩ := h
 exact ⟨⟨_, _, _, hb, by decide⟩, ⟨_, _, _, hb, by decide⟩⟩
def FamilyRet (B tb : Nat) (w : World) (letters : Nat) (e : Ending) (w' : World) : Prop :=
 ∃ v L, e = .returned v ∧ FamD w' v L ∧ xC B w' tb ∧ w.grownBy w' (some tb)
set_option maxRecDepth 100000 in
set_option maxHeartbeats 800000 in
theorem family34_any (B tb : Nat) (w : World) (letters : Nat) (h1 : 1 ≤ letters) (h2 : letters ≤ 2) (hT : xC B w tb) :
  Calls Try.prog 16 #[.pointer (some ⟨tb, 0, none⟩), .int .i64 (letters : Int)] w (FamilyRet B tb w letters) := by
 have hlt := hT.lt; have hge := hT.ge
 have HNX := Kh (vB B tb w 7 (by omega) hT)
 have HFR : Hid (∀ (W : World) (kind k : Int) (wT : World), kind ∈ [1, 2, 3, 4, 5, 6, 7] → k ∈ [1, 2] → xC B W tb → w.grownBy W (some tb) → Calls Try.prog 45 #[.int .i64 kind, .int .i64 (letters : Int), .int .i64 k, .int .i64 0] W fun e w' => ∃ v E L, e = .returned (.tuple #[v, .int .i64 E]) ∧ FamD w' v L ∧ xC B w' tb ∧ w.grownBy w' (some tb)) := Kh (fun W kind k wT hk1 hk2 hTW hgW => by
  refine (rfamily_any kind (letters : Int) k 0 W).mono ?_
  rintro e w' ⟨sa, sc, svs, rfl, hrt, hrs, hg⟩
  refine ⟨_, _, famL kind letters k 0, rfl, ⟨?_, svs, hrt, hrs, sa, sc, rfl⟩, hTW.kept hg (by simp), tZ hgW hg (.inr (.inl rfl)) (.inl rfl)⟩
  have hl : (letters : Int) ∈ ([1, 2] : List Int) := by
   rcases (by omega : letters = 1 ∨ letters = 2) with rfl | rfl <;> simp
  exact fam_small kind hk1 letters hl k hk2)
 go_enter Try.func16, Try.ntmps16
 go_wp2_with fail
 refine HNX.out.mono ?_
 rintro e w1 ⟨r, rfl, hr0, hr1, hT1, hg1⟩
 replace hr1 := hr1 (by omega)
 have HT1 := Kh hT1; have HG1 := Kh hg1
 have HNX2 := Kh (vB B tb w1 2 (by omega) hT1)
 obtain ⟨kd, hkd⟩ : ∃ kd : Nat, 1 + r = (kd : Int) := ⟨(1 + r).toNat, by omega⟩
 have hk1 : 1 ≤ kd := by omega
 have hk7 : kd ≤ 7 := by omega
 have hkm : (kd : Int) ∈ ([1, 2, 3, 4, 5, 6, 7] : List Int) := by
  rcases (by omega : kd = 1 ∨ kd = 2 ∨ kd = 3 ∨ kd = 4 ∨ kd = 5 ∨ kd = 6 ∨ kd = 7) with rfl | rfl | rfl | rfl | rfl | rfl | rfl <;> simp
 have HKM := Kh hkm
 clear HNX hg1 hT1 hT hkm
 by_cases h7 : kd = 7
 ·have HC := Kh (HFR.out w1 (kd : Int) 1 w1 HKM.out (by simp) HT1.out HG1.out)
  subst h7
  go_wp2_with fail
  refine HC.out.mono ?_
  rintro e w2 ⟨v, E, L, rfl, hf, hT2, hg2⟩
  obtain ⟨_, _, _, _, sa, sc, rfl⟩ := id hf
  go_wp2
  go_ret
  exact ⟨_, L, rfl, hf, hT2, hg2⟩
 ·have h7' : ((kd : Int) != 7) = true := by rw [bne_iff_ne]; omega
  go_wp2_with fail
  refine HNX2.out.mono ?_
  rintro e w2 ⟨q, rfl, hq0, hq1, hT2, hg2⟩
  replace hq1 := hq1 (by omega)
  have hg2 := zF HG1.out hg2
  obtain ⟨kq, hkq⟩ : ∃ kd : Nat, 1 + q = (kd : Int) := ⟨(1 + q).toNat, by omega⟩
  have hqm : (kq : Int) ∈ ([1, 2] : List Int) := by
   rcases (by omega : kq = 1 ∨ kq = 2) with rfl | rfl <;> simp
  have HC := Kh (HFR.out w2 (kd : Int) (kq : Int) w1 HKM.out hqm hT2 hg2)
  clear hT2 hg2 HNX2 hqm
  go_wp2_with fail
  refine HC.out.mono ?_
  rintro e w3 ⟨v, E, L, rfl, hf, hT3, hg3⟩
  obtain ⟨_, _, _, _, sa, sc, rfl⟩ := id hf
  go_wp2
  go_ret
  exact ⟨_, L, rfl, hf, hT3, hg3⟩
theorem oD {u : List Nat} {k : Nat} (h1 : 1 ≤ k) (h6 : k ≤ 6) (hu : yD k u) (hl : u.length ≤ 2048) : zU (strOfNums (lets u)) (k : Int) = true ∧ zK (strOfNums (lets u)) = u := by
 have e1 : (strOfNums (lets u)).data.toList = (lets u).map (fun n => UInt8.ofNat n.toNat) := strOfNums_data _
 have hb : ∀ x ∈ u, (UInt8.ofNat (97 + (x : Int)).toNat).toNat = 97 + x := fun x hx => by
  have := hu x hx
  rw [UInt8.toNat_ofNat']; omega
 constructor
 ·simp only [zU, Bool.and_eq_true, decide_eq_true_eq, List.all_eq_true]
  refine ⟨⟨by omega, by omega, by rw [strOfNums_size]; simpa [lets] using hl⟩, fun c hc => ?_⟩
  rw [e1] at hc
  simp only [lets, List.map_map, List.mem_map] at hc
  obtain ⟨x, hx, rfl⟩ := hc
  have h3 := hb x hx
  have := hu x hx
  unfold rH
  rw [decide_eq_true_eq]
  simp only [Function.comp]
  omega
 ·rw [lettersOf_map, e1]
  simp only [lets, List.map_map]
  refine (List.map_congr_left fun x hx => ?_).trans (List.map_id u)
  have := hb x hx
  simp only [Function.comp, letU, id]
  omega
end Go.Proofs.Ytjfdomfendbhfaa
namespace Go.Proofs.Ytjfdomfendbhfaa
open Go.RowKit
set_option maxRecDepth 100000 in
set_option maxHeartbeats 400000 in
theorem rvalW_any (B : Nat) (w : World) (v : Value) (bs : List ByteArray) (letters : Int) (h : Row B w v (txtV bs)) (hs : ∀ i (hi : i < bs.length), bs[i].size ≤ maxLen) :
    Calls Try.prog 33 #[.agg #[v], .int .i64 letters] w fun e w' => e = .returned (.int .i64 (patW bs letters)) ∧ w.grownBy w' none := by
  have hlm := h.len_le
  rw [yA] at hlm
  have hlm' : bs.length ≤ 9223372036854775807 := by unfold maxLen at hlm; omega
  have H := Kh h; have HS := Kh hs
  obtain ⟨a, cap, rfl⟩ := h.shape
  rw [yA] at H ⊢
  clear h hs hlm
  by_cases h1 : letters < 1 ∨ 6 < letters
  · have e1 : decide (1 ≤ letters ∧ letters ≤ 6) = false := by rw [decide_eq_false_iff_not]; omega
    have H1 := Kh h1
    clear h1
    go_enter Try.func33, Try.ntmps33
    go_wp2_with fail
    refine (yL _ letters).mono ?_
    rintro e w' ⟨rfl, rfl⟩
    rw [e1]
    go_wp2
    go_ret
    exact ⟨yE (by rw [patW, if_pos H1.out]), World.grownBy_alloc _ _ _⟩
  have e1 : decide (1 ≤ letters ∧ letters ≤ 6) = true := by rw [decide_eq_true_eq]; omega
  go_enter Try.func33, Try.ntmps33
  go_wp2_with fail
  refine (yL _ letters).mono ?_
  rintro e w' ⟨rfl, rfl⟩
  rw [e1]
  go_wp2
  go_loopg [5, 7, 16] bs.length (fun gh t a7 i wr => w.alloc (.cells #[.slice a bs.length cap] 28) = wr ∧ ∃ k : Nat, gh + k = bs.length ∧ i = .int .i64 k ∧ t = .int .i64 (totW (bs.take k)))
  case atStart => exact ⟨rfl, 0, rfl, rfl, rfl⟩
  case round =>
    obtain ⟨hw, k, hgh, rfl, rfl⟩ := hrel
    have HGH := Kh hgh
    clear hgh
    by_cases hlt : k < bs.length
    · have hlt' : (k : Int) < bs.length := by omega
      obtain ⟨kb, off, kc, e, _, hk1, hk2, hkr⟩ := (H.out.kept (World.grownBy_alloc w (.cells #[.slice a bs.length cap] 28) none) (by simp)).some_ (by rw [yA]; omega)
      rw [hw] at hkr
      rw [yA] at e hk1
      simp only [Value.slice.injEq] at e
      obtain ⟨rfl, _, rfl⟩ := e
      have hc := uH hkr k hlt
      have HS2 := Kh (kU bs k hlt)
      obtain ⟨u, hu⟩ : ∃ u, u = bs.getD k ⟨#[]⟩ := ⟨_, rfl⟩
      have hus : u.size ≤ 9223372036854775807 := by
        rw [hu, zI hlt]; have := HS.out k hlt; unfold maxLen at this; omega
      rw [← hu] at hc HS2
      have HW := Kh hw
      clear hkr hu hw
      go_wp2
      go_roundg (bs.length - (k + 1))
      case measure => have := HGH.out; omega
      case rel => exact ⟨HW.out, k + 1, by have := HGH.out; omega, by go_num, by rw [HS2.out]⟩
    · have hkn : k = bs.length := by have := HGH.out; omega
      have HT : Hid (totW (bs.take k) = totW bs) := Kh (by rw [hkn, List.take_length])
      rw [HT.out]
      have hkn' : ¬ (k : Int) < bs.length := by omega
      have HG : Hid (w.grownBy wr none) := Kh (by rw [← hw]; exact World.grownBy_alloc _ _ _)
      have hb := heap_alloc_new w (.cells #[.slice a bs.length cap] 28)
      rw [hw] at hb
      have c0 : wr.cell? ⟨w.heap.size, 0, none⟩ = some (.slice a bs.length cap) := by simpa using zO hb 0 (by simp)
      have HR : Hid (Row B wr (.slice a bs.length cap) (txtV bs)) := Kh (H.out.kept HG.out (by simp))
      clear hkn hw hb HGH
      obtain ⟨tw, htw⟩ : ∃ tw, tw = totW bs := ⟨_, rfl⟩
      rw [← htw]
      have HTW := Kh htw
      clear htw
      by_cases h3 : 8 < bs.length
      · have h3' : (8 : Int) < bs.length := by omega
        go_wp2
        go_ret
        exact ⟨yE (by rw [patW, if_neg (by omega), if_pos h3]), HG.out⟩
      have h3' : ¬ (8 : Int) < bs.length := by omega
      by_cases h4 : 64 < tw
      · go_wp2
        go_ret
        exact ⟨yE (by rw [patW, if_neg (by omega), if_neg (by omega), if_pos (by rw [← HTW.out]; exact h4)]), HG.out⟩
      by_cases h5 : bs.length = 0
      · have h5' : ((bs.length : Int) == 0) = true := by simp [h5]
        have H5 := Kh h5; clear h5
        go_wp2
        go_ret
        exact ⟨yE (by rw [patW, if_neg (by omega), if_neg (by omega), if_neg (by rw [← HTW.out]; omega), if_pos H5.out]), HG.out⟩
      have h5' : ((bs.length : Int) == 0) = false := by rw [beq_eq_false_iff_ne]; omega
      go_wp2
      go_loopg [8, 9, 40] bs.length (fun gh a8 a9 i wq => wr = wq ∧ ∃ k : Nat, gh + k = bs.length ∧ i = .int .i64 k ∧ wE bs.length letters k (bs.drop k) = wE bs.length letters 0 bs)
      case atStart => exact ⟨rfl, 0, rfl, rfl, rfl⟩
      case round =>
        obtain ⟨rfl, j, hgh, rfl, hok⟩ := hrel
        have HGH := Kh hgh; have HOK := Kh hok
        clear hgh hok
        by_cases hj : j < bs.length
        · have hj' : (j : Int) < bs.length := by omega
          obtain ⟨kb, off, kc, e, _, hk1, hk2, hkr⟩ := HR.out.some_ (by rw [yA]; omega)
          rw [yA] at e hk1
          simp only [Value.slice.injEq] at e
          obtain ⟨rfl, _, rfl⟩ := e
          have hc := uH hkr j hj
          obtain ⟨u, hu⟩ : ∃ u, u = bs.getD j ⟨#[]⟩ := ⟨_, rfl⟩
          have hus : u.size ≤ maxLen := by rw [hu, zI hj]; exact HS.out j hj
          rw [← hu] at hc
          have HU : Hid (u = bs[j]) := Kh (by rw [hu, zI hj])
          clear hkr hu
          go_wp2_with (go_at_call 43; refine (kQ u letters _ hus).mono ?_; rintro e w' ⟨rfl, rfl⟩)
          all_goals first
            | (go_ret
               exact ⟨yE (by rw [jG (by omega) (by omega) (by rw [← HTW.out]; omega) (by omega), okFrom_bad hj (by rw [← HU.out]; first | exact jN (by assumption) (by assumption) (List.isEmpty_iff.2 (by assumption)) | exact jO (by assumption)) HOK.out]; rfl), HG.out⟩)
            | (go_roundg (bs.length - (j + 1))
               case rel => exact ⟨rfl, j + 1, by have := HGH.out; omega, by go_num, jK hj (jM (by rw [← HU.out]; assumption) (by rw [← HU.out]; first | (left; omega) | (right; exact Bool.eq_false_iff.2 (fun e => absurd (List.isEmpty_iff.1 e) (by assumption))))) HOK.out⟩
               case measure => have := HGH.out; omega)
        · have hj' : ¬ (j : Int) < bs.length := by omega
          have e : wE bs.length letters j (bs.drop j) = true := by rw [List.drop_eq_nil_of_le (by omega)]; rfl
          have HE := Kh e
          clear e
          go_wp2
          go_ret
          exact ⟨yE (by rw [jG (by omega) (by omega) (by rw [← HTW.out]; omega) (by omega), ← HOK.out, HE.out]; rfl), HG.out⟩
def tl (s : ByteArray) : List UInt8 := s.data.toList
theorem xD (s : ByteArray) : (tl s).length = s.size := by simp [tl]
theorem pW (s : ByteArray) (i j : Nat) : tl (s.extract i j) = ((tl s).drop i).take (j - i) := by
 unfold tl
 rw [ByteArray.data_extract, Array.toList_extract, List.extract_eq_take_drop]
theorem ext_size (s : ByteArray) {i j : Nat} (h : j ≤ s.size) : (s.extract i j).size = j - i := by
 rw [← xD, pW, List.length_take, List.length_drop, xD]; omega
theorem ext_toList (s : ByteArray) (i j : Nat) : (s.extract i j).toList = ((tl s).drop i).take (j - i) := by
 rw [ByteArray.toList_eq]; exact pW s i j
theorem kV (s : ByteArray) : s.toList = tl s := ByteArray.toList_eq s
def NoB (r u : List UInt8) (p : Nat) : Prop := ∀ i, i < p → Lib.occAt r u i = false
theorem occ_ext {r u : ByteArray} {p : Nat} (h : p + u.size ≤ r.size) : ((r.extract p (p + u.size)).toList == u.toList) = Lib.occAt (tl r) (tl u) p := by
 rw [ext_toList, kV, Lib.occAt, Bool.eq_iff_iff, beq_iff_eq, List.isPrefixOf_iff_prefix, List.prefix_iff_eq_take, xD, Nat.add_sub_cancel_left]
 exact eq_comm
theorem fit_occ {us : List (List UInt8)} {u v r : List UInt8} {f : Nat} (hno : NoB r u f) (hocc : Lib.occAt r u f = true) (hf : f + u.length ≤ r.length) : Fit (u :: us) v r ↔ Fit us v (r.drop (f + u.length)) := by
 constructor
 ·rintro ⟨p, r', hr, hf'⟩
  have hip : f ≤ p.length := by
   rcases Nat.lt_or_ge p.length f with hlt | hge
   ·have := hno p.length hlt
    rw [kJ hr] at this
    cases this
   ·exact hge
  have hd : r.drop (p.length + u.length) = r' := by
   rw [hr, ← List.length_append, List.drop_left]
  have he : r.drop (f + u.length) = (r.drop (f + u.length)).take (p.length - f) ++ r' := by
   have e : r' = (r.drop (f + u.length)).drop (p.length - f) := by rw [List.drop_drop, ← hd]; congr 1; omega
   rw [e, List.take_append_drop]
  rw [he]
  exact hf'.more _
 ·intro h
  exact ⟨_, _, occAt_to hocc (by omega), h⟩
theorem fit_none {us : List (List UInt8)} {u v r : List UInt8} {p : Nat} (hno : NoB r u p) (hp : ¬ p + u.length ≤ r.length) : ¬ Fit (u :: us) v r := by
 rintro ⟨q, r', hr, _⟩
 have hl := congrArg List.length hr
 simp only [List.length_append] at hl
 have := hno q.length (by omega)
 rw [kJ hr] at this
 cases this
def lastU (bs : List ByteArray) : List UInt8 := tl (bs.getD (bs.length - 1) ⟨#[]⟩)
theorem fits_one {bs : List ByteArray} {s : List UInt8} (h : bs.length = 1) : sX (bs.map (·.data.toList)) s ↔ s = tl (bs.getD 0 ⟨#[]⟩) := by
 match bs, h with
 | [b], _ => exact Iff.rfl
theorem fits_more {bs : List ByteArray} {s : List UInt8} (h : 2 ≤ bs.length) : sX (bs.map (·.data.toList)) s ↔ ∃ r, s = tl (bs.getD 0 ⟨#[]⟩) ++ r ∧ Fit (mid bs) (lastU bs) r := by
 match bs, h with
 | b :: c :: rest, _ =>
  have e : ((c :: rest).map (·.data.toList)).getLastD [] = lastU (b :: c :: rest) := by
   rw [List.getLastD_eq_getLast?, List.getLast?_eq_getElem?, lastU]
   simp only [List.length_map, List.length_cons, List.getElem?_map]
   rw [show rest.length + 1 + 1 - 1 = rest.length + 1 by omega, show rest.length + 1 - 1 = rest.length by omega]
   have h2 : rest.length < (c :: rest).length := by simp
   rw [List.getElem?_eq_getElem h2, zI (show rest.length + 1 < (b :: c :: rest).length by simp)]
   rfl
  show (∃ r, s = b.data.toList ++ r ∧ Fit ((c :: rest).map (·.data.toList)).dropLast (((c :: rest).map (·.data.toList)).getLastD []) r) ↔ _
  rw [e]; rfl
theorem mid_drop {bs : List ByteArray} {q : Nat} (h1 : 1 ≤ q) (h2 : q < bs.length - 1) : (mid bs).drop (q - 1) = tl (bs.getD q ⟨#[]⟩) :: (mid bs).drop q := by
 have hl : q - 1 < (mid bs).length := by rw [sE]; omega
 rw [List.drop_eq_getElem_cons hl, show q - 1 + 1 = q by omega, mid_get bs (q - 1) (by omega), zI (by omega)]
 congr 1
 simp only [tl, show 1 + (q - 1) = q by omega]
set_option maxRecDepth 100000 in
set_option maxHeartbeats 1600000 in
theorem rmatch_any (w : World) (kb off cap : Nat) (bs : List ByteArray) (s : ByteArray) (h : vU w kb off (txtV bs)) (hc1 : bs.length ≤ cap) (hc2 : cap ≤ maxLen) (h0 : 0 < bs.length) (hs : ∀ i (hi : i < bs.length), bs[i].size ≤ 4096) (hss : s.size ≤ 4096) :
  Calls Try.prog 88 #[.slice (some ⟨kb, off, none⟩) bs.length cap, .string s] w fun e w' => e = .returned (.bool (xW (bs.map (·.data.toList)) s.data.toList)) ∧ w.grownBy w' none := by
 have cF := uH h 0 h0
 rw [Nat.add_zero] at cF
 obtain ⟨b0, hb0⟩ : ∃ u, u = bs.getD 0 ⟨#[]⟩ := ⟨_, rfl⟩
 rw [← hb0] at cF
 have hbz : b0.size ≤ 4096 := by rw [hb0, zI h0]; exact hs 0 h0
 have hcm : cap ≤ 9223372036854775807 := by unfold maxLen at hc2; omega
 have HPM : Hid (∀ c : Bool, (c = true ↔ sX (bs.map (·.data.toList)) (tl s)) → c = xW (bs.map (·.data.toList)) s.data.toList) := Kh (fun c hc => by
  rw [Bool.eq_iff_iff, oL]; exact hc)
 have H := Kh h; have HB0 := Kh hb0; have HS := Kh hs
 have HPRE : Hid (sX (bs.map (·.data.toList)) (tl s) → tl b0 <+: tl s) := Kh (fun hf => by
  by_cases h1 : bs.length = 1
  ·rw [fits_one h1, ← hb0] at hf
   rw [hf]; exact List.prefix_refl _
  ·obtain ⟨r, hr, _⟩ := (fits_more (by omega)).1 hf
   rw [← hb0] at hr
   rw [hr]; exact List.prefix_append _ _)
 clear h hb0 hs hc2
 by_cases hlt : s.size < b0.size
 ·have hlt' : decide ((s.size : Int) < (b0.size : Int)) = true := by rw [decide_eq_true_eq]; omega
  go_enter Try.func88, Try.ntmps88
  go_wp2
  go_ret
  refine ⟨zZ (HPM.out _ ⟨fun h => (by cases h), fun h => ?_⟩), zL _ _⟩
  have := (HPRE.out h).length_le
  rw [xD, xD] at this
  omega
 have hlt' : decide ((s.size : Int) < (b0.size : Int)) = false := by rw [decide_eq_false_iff_not]; omega
 have hle : b0.size ≤ s.size := by omega
 have hocc := occ_ext (r := s) (u := b0) (p := 0) (by omega)
 rw [Nat.zero_add] at hocc
 by_cases hp : Lib.occAt (tl s) (tl b0) 0 = true
 case neg =>
  have hp' : (!((s.extract 0 b0.size).toList == b0.toList)) = true := by rw [hocc]; simpa using hp
  have HP := Kh hp
  clear hp hocc
  go_enter Try.func88, Try.ntmps88
  go_wp2
  go_ret
  refine ⟨zZ (HPM.out _ ⟨fun h => (by cases h), fun h => absurd ?_ HP.out⟩), zL _ _⟩
  rw [Lib.occAt, List.isPrefixOf_iff_prefix]
  exact HPRE.out h
 have hp' : (!((s.extract 0 b0.size).toList == b0.toList)) = false := by rw [hocc, hp]; rfl
 obtain ⟨r0, hr0⟩ : ∃ r, r = s.extract b0.size s.size := ⟨_, rfl⟩
 have hr0z : r0.size ≤ 4096 := by rw [hr0, ext_size s (Nat.le_refl _)]; omega
 have hsplit : tl s = tl b0 ++ tl r0 := by
  rw [Lib.occAt, List.isPrefixOf_iff_prefix] at hp
  obtain ⟨t, ht⟩ := hp
  rw [List.drop_zero] at ht
  rw [hr0, pW, List.take_of_length_le (by rw [List.length_drop, xD]; omega), ← xD b0, ← ht, List.drop_left]
 have HR0 := Kh hr0; have HSP := Kh hsplit
 clear hp hocc hsplit hr0
 by_cases h1 : bs.length = 1
 ·have h1' : ((bs.length : Int) == 1) = true := by simp [h1]
  have H1 := Kh h1
  clear h1
  go_enter Try.func88, Try.ntmps88
  go_wp2
  rw [← HR0.out]
  go_ret
  refine ⟨zZ (HPM.out _ ?_), zL _ _⟩
  rw [fits_one H1.out, ← HB0.out, HSP.out, List.isEmpty_iff, kV]
  constructor
  ·intro h; rw [h, List.append_nil]
  ·intro h; simpa using h
 ·have h1' : ((bs.length : Int) == 1) = false := by rw [beq_eq_false_iff_ne]; omega
  have h2 : 2 ≤ bs.length := by omega
  obtain ⟨R1, hR1⟩ : ∃ R1, R1 = bs.length - 1 := ⟨_, rfl⟩
  have e71 : (bs.length : Int) - 1 = (R1 : Int) := by omega
  have hR1l : R1 < bs.length := by omega
  have hR1i : (R1 : Int) < bs.length := by omega
  have hR1p : 1 ≤ R1 := by omega
  have HR1 := Kh hR1
  have HFM : Hid (sX (bs.map (·.data.toList)) (tl s) ↔ Fit (mid bs) (lastU bs) (tl r0)) := Kh (by
   rw [fits_more h2, ← HB0.out, HSP.out]
   constructor
   ·rintro ⟨r, hr, hf⟩
    have := List.append_cancel_left hr
    rw [this]; exact hf
   ·intro hf; exact ⟨_, rfl, hf⟩)
  clear h1 hR1
  go_enter Try.func88, Try.ntmps88
  go_wp2
  rw [← HR0.out]
  clear cF hp' hlt'
  go_loopg [1, 6, 7, 8, 9] R1 (fun gh s1 i s7 s8 s9 wr => ∃ (q : Nat) (r : ByteArray), gh + q = R1 + 1 ∧ i = .int .i64 q ∧ 1 ≤ q ∧ q ≤ R1 ∧ s1 = .string r ∧ r.size ≤ 4096 ∧ (Fit ((mid bs).drop (q - 1)) (lastU bs) (tl r) ↔ Fit (mid bs) (lastU bs) (tl r0)) ∧ w = wr)
  case atStart => exact ⟨1, r0, rfl, rfl, Nat.le_refl _, hR1p, rfl, hr0z, Iff.rfl, rfl⟩
  case round =>
   obtain ⟨q, r, hgh, rfl, hq1, hqR, rfl, hrz, hfit, rfl⟩ := hrel
   have HGH := Kh hgh; have HFT := Kh hfit
   clear hgh hfit
   by_cases hq : q < R1
   ·have hq' : (q : Int) < R1 := by omega
    have hqb : (q : Int) < bs.length := by omega
    have cu := uH H.out q (by omega)
    obtain ⟨u, hu⟩ : ∃ u, u = bs.getD q ⟨#[]⟩ := ⟨_, rfl⟩
    rw [← hu] at cu
    have huz : u.size ≤ 4096 := by rw [hu, zI (show q < bs.length by omega)]; exact HS.out q (by omega)
    have HMD := Kh (mid_drop (bs := bs) hq1 (by have := HR1.out; omega))
    rw [← hu] at HMD
    clear hu
    go_wp2
    go_loopg [8, 9] (r.size + 1) (fun gh s8 s9 wr => ∃ p : Nat, gh + p = r.size + 1 ∧ s9 = .int .i64 p ∧ w = wr ∧ ((s8 = .int .i64 (-1) ∧ NoB (tl r) (tl u) p) ∨ (∃ f : Nat, f + 1 = p ∧ s8 = .int .i64 f ∧ NoB (tl r) (tl u) f ∧ Lib.occAt (tl r) (tl u) f = true ∧ f + u.size ≤ r.size)))
    case atStart => exact ⟨0, rfl, rfl, rfl, .inl ⟨rfl, fun i hi => by omega⟩⟩
    case round =>
     clear cu
     obtain ⟨p, hghp, rfl, rfl, hcase⟩ := hrel
     have HGP := Kh hghp
     have hpz : p ≤ 4097 := by omega
     clear hghp
     rcases hcase with ⟨rfl, hno⟩ | ⟨f, hfp, rfl, hno, hocc, hfu⟩
     ·have HNO := Kh hno
      clear hno
      by_cases hpu : p + u.size ≤ r.size
      ·have hpu' : decide ((p : Int) + (u.size : Int) ≤ (r.size : Int)) = true := by rw [decide_eq_true_eq]; omega
       have hoe := occ_ext (r := r) (u := u) (p := p) hpu
       by_cases ho : Lib.occAt (tl r) (tl u) p = true
       ·rw [ho] at hoe
        have HO := Kh ho
        clear ho
        go_wp2
        go_roundg (r.size + 1 - (p + 1))
        case measure => have := HGP.out; omega
        case rel => exact ⟨p + 1, by have := HGP.out; omega, by go_num, rfl, .inr ⟨p, rfl, rfl, HNO.out, HO.out, hpu⟩⟩
       ·have ho' : Lib.occAt (tl r) (tl u) p = false := by simpa using ho
        rw [ho'] at hoe
        have HO := Kh ho'
        clear ho ho'
        go_wp2
        go_roundg (r.size + 1 - (p + 1))
        case measure => have := HGP.out; omega
        case rel =>
         refine ⟨p + 1, by have := HGP.out; omega, by go_num, rfl, .inl ⟨rfl, fun i hi => ?_⟩⟩
         by_cases e : i = p
         ·rw [e]; exact HO.out
         ·exact HNO.out i (by omega)
      ·have hpu' : decide ((p : Int) + (u.size : Int) ≤ (r.size : Int)) = false := by rw [decide_eq_false_iff_not]; omega
       go_wp2
       go_ret
       refine ⟨zZ (HPM.out _ ⟨fun h => (by cases h), fun h => ?_⟩), zL _ _⟩
       rw [HFM.out, ← HFT.out, HMD.out] at h
       exact absurd h (fit_none HNO.out (by rw [xD, xD]; exact hpu))
     ·have HFP := Kh hfp; have HNO := Kh hno; have HOC := Kh hocc
      have hf1 : ((f : Int) == -1) = false := by rw [beq_eq_false_iff_ne]; omega
      have hrs : (f : Int) + u.size ≤ r.size := by omega
      have hez := ext_size r (i := f + u.size) (j := r.size) (Nat.le_refl _)
      have HEZ := Kh hez
      have HRE : Hid (Fit ((mid bs).drop (q + 1 - 1)) (lastU bs) (tl (r.extract (f + u.size) r.size)) ↔ Fit (mid bs) (lastU bs) (tl r0)) := Kh (by
       rw [← HFT.out, HMD.out, Nat.add_sub_cancel, fit_occ hno hocc (by rw [xD, xD]; exact hfu), pW, List.take_of_length_le (by rw [List.length_drop, xD]; omega), xD])
      clear hfp hno hocc hez
      by_cases hpu : p + u.size ≤ r.size
      ·have hpu' : decide ((p : Int) + (u.size : Int) ≤ (r.size : Int)) = true := by rw [decide_eq_true_eq]; omega
       go_wp2
       go_roundg (R1 + 1 - (q + 1))
       case measure => have := HGH.out; omega
       case rel => exact ⟨q + 1, _, by have := HGH.out; omega, by go_num, by omega, by omega, rfl, by rw [HEZ.out]; omega, HRE.out, rfl⟩
      ·have hpu' : decide ((p : Int) + (u.size : Int) ≤ (r.size : Int)) = false := by rw [decide_eq_false_iff_not]; omega
       go_wp2
       go_roundg (R1 + 1 - (q + 1))
       case measure => have := HGH.out; omega
       case rel => exact ⟨q + 1, _, by have := HGH.out; omega, by go_num, by omega, by omega, rfl, by rw [HEZ.out]; omega, HRE.out, rfl⟩
   ·have hqe : q = R1 := by omega
    have hq' : ¬ (q : Int) < R1 := by omega
    have cl := uH H.out R1 hR1l
    obtain ⟨v, hv⟩ : ∃ u, u = bs.getD R1 ⟨#[]⟩ := ⟨_, rfl⟩
    rw [← hv] at cl
    have hvz : v.size ≤ 4096 := by rw [hv, zI hR1l]; exact HS.out R1 hR1l
    have HLU : Hid (lastU bs = tl v) := Kh (by rw [lastU, ← HR1.out, ← hv])
    have HEND : Hid (sX (bs.map (·.data.toList)) (tl s) ↔ ∃ q, tl r = q ++ tl v) := Kh (by
     rw [HFM.out, ← HFT.out, HLU.out, List.drop_eq_nil_of_le (by rw [sE, hqe]; have := HR1.out; omega)]
     exact Iff.rfl)
    clear hv hqe
    by_cases hge : v.size ≤ r.size
    ·have hge' : decide ((v.size : Int) ≤ (r.size : Int)) = true := by rw [decide_eq_true_eq]; omega
     have hge2 : decide ((r.size : Int) ≥ (v.size : Int)) = true := by rw [decide_eq_true_eq]; omega
     obtain ⟨dd, hdd⟩ : ∃ dd, dd = r.size - v.size := ⟨_, rfl⟩
     have edd : (r.size : Int) - (v.size : Int) = (dd : Int) := by omega
     have hddr : (dd : Int) ≤ r.size := by omega
     have HDD := Kh hdd
     clear hdd
     go_wp2
     go_ret
     refine ⟨zZ (HPM.out _ ?_), zL _ _⟩
     rw [HEND.out, beq_iff_eq, ext_toList, kV, List.take_of_length_le (by rw [List.length_drop, xD]; omega)]
     constructor
     ·intro h
      exact ⟨(tl r).take dd, by rw [← h, List.take_append_drop]⟩
     ·rintro ⟨y, hy⟩
      have hyl := congrArg List.length hy
      rw [List.length_append, xD, xD] at hyl
      rw [hy, show dd = y.length by have := HDD.out; omega, List.drop_left]
    ·have hge' : decide ((v.size : Int) ≤ (r.size : Int)) = false := by rw [decide_eq_false_iff_not]; omega
     have hge2 : decide ((r.size : Int) ≥ (v.size : Int)) = false := by rw [decide_eq_false_iff_not]; omega
     go_wp2
     go_ret
     refine ⟨zZ (HPM.out _ ⟨fun h => (by cases h), fun h => ?_⟩), zL _ _⟩
     obtain ⟨y, hy⟩ := HEND.out.1 h
     have hyl := congrArg List.length hy
     rw [List.length_append, xD, xD] at hyl
     omega
set_option maxRecDepth 100000 in
set_option maxHeartbeats 800000 in
theorem rMatch_any (B : Nat) (w : World) (v : Value) (bs : List ByteArray) (s : ByteArray) (h : Row B w v (txtV bs)) (hs : ∀ i (hi : i < bs.length), bs[i].size ≤ maxLen) (hss : s.size ≤ maxLen) :
  Calls Try.prog 65 #[.agg #[v], .string s] w fun e w' => e = .returned (.bool (yG bs s)) ∧ w.grownBy w' none := by
 obtain ⟨a, cap, rfl⟩ := h.shape
 rw [yA] at h ⊢
 have H := Kh h
 have hg1 := World.grownBy_alloc w (.cells #[.slice a bs.length cap] 28) none
 have hb1 := heap_alloc_new w (.cells #[.slice a bs.length cap] 28)
 obtain ⟨w1, hw1⟩ : ∃ w1, w1 = w.alloc (.cells #[.slice a bs.length cap] 28) := ⟨_, rfl⟩
 obtain ⟨P, hP⟩ : ∃ P, P = w.heap.size := ⟨_, rfl⟩
 rw [← hw1] at hg1 hb1
 rw [← hP] at hb1
 have c0 : w1.cell? ⟨P, 0, none⟩ = some (.slice a bs.length cap) := by simpa using zO hb1 0 (by simp)
 have HVA := Kh (rvalW_any B w1 _ bs 6 (h.kept hg1 (by simp)) hs)
 have HW1 := Kh hw1; have HP := Kh hP; have HG1 := Kh hg1; have HB1 := Kh hb1
 clear h hg1 hb1 hw1 hP hs
 go_enter Try.func65, Try.ntmps65
 go_upto_region 1 with fail
 rw [← HW1.out, ← HP.out]
 go_wp2_with fail
 refine HVA.out.mono ?_
 rintro e w2 ⟨rfl, hg2⟩
 have HG2 := Kh (zA HG1.out hg2 (by simp))
 have c2 : w2.cell? ⟨P, 0, none⟩ = some (.slice a bs.length cap) := by simpa using zO (zB HB1.out hg2 (by simp)) 0 (by simp)
 clear hg2 HVA c0
 by_cases hE : patW bs 6 = 0
 case neg =>
  have hM : Hid (yG bs s = false) := Kh (by
   have : ¬ yJ bs 6 = 0 := fun e => hE (wO.2 e)
   simp [yG, this])
  obtain ⟨E, hEE⟩ : ∃ E, E = patW bs 6 := ⟨_, rfl⟩
  rw [← hEE] at hE ⊢
  have e1 : (E == 0) = false := by rw [beq_eq_false_iff_ne]; exact hE
  clear hE hEE
  go_wp2
  go_ret
  exact ⟨zZ hM.out.symm, HG2.out⟩
 rw [hE]
 have hV := wO.1 hE
 have HV := Kh hV
 obtain ⟨_, _, h0, h8, _, hwv, _⟩ := patOk hV
 clear hE hV
 go_wp2_with fail
 refine (kQ s 6 _ hss).mono ?_
 rintro e w3 ⟨rfl, rfl⟩
 by_cases hW : zU s 6 = true
 ·obtain ⟨b, off, _, ea, hbB, hbc, hbm, hra⟩ := (H.out.kept HG2.out (by simp)).some_ (by rw [yA]; exact h0)
  rw [yA] at ea hbc
  simp only [Value.slice.injEq] at ea
  obtain ⟨rfl, _, rfl⟩ := ea
  have HM := Kh (rmatch_any w2 b off cap bs s hra hbc hbm h0 (fun i hi => by
   have := hwv i hi
   simp [zU] at this
   omega) (by simp [zU] at hW; omega))
  have HPM : Hid (yG bs s = xW (bs.map (·.data.toList)) s.data.toList) := Kh (by
   rw [yG, HV.out, hW]; simp)
  rw [hW]
  clear hra hwv
  go_wp2_with fail
  refine HM.out.mono ?_
  rintro e w3 ⟨rfl, hg3⟩
  have HG3 := Kh (zA HG2.out hg3 (by simp))
  clear hg3
  go_wp2
  go_ret
  exact ⟨zZ HPM.out.symm, HG3.out⟩
 ·have hW' : zU s 6 = false := by simpa using hW
  have hM : Hid (yG bs s = false) := Kh (by simp [yG, hW'])
  rw [hW']
  clear hW hW' hwv
  go_wp2
  go_ret
  exact ⟨zZ hM.out.symm, HG2.out⟩
def mtsW (ps : List (List ByteArray)) (s : ByteArray) : List Bool := ps.map fun p => yG p s
theorem mtsW_length (ps : List (List ByteArray)) (s : ByteArray) : (mtsW ps s).length = ps.length := by simp [mtsW]
theorem mtsW_take {ps : List (List ByteArray)} {s : ByteArray} {k : Nat} (hk : k < ps.length) : mtsW (ps.take (k + 1)) s = mtsW (ps.take k) s ++ [yG (ps.getD k []) s] := by
 rw [List.take_succ_eq_append_getElem hk, mtsW, List.map_append, zI hk]; rfl
set_option maxRecDepth 100000 in
set_option maxHeartbeats 800000 in
theorem rmatched_any (B : Nat) (w : World) (v : Value) (ps : List (List ByteArray)) (s : ByteArray) (hB : B ≤ w.heap.size) (h : vJ B w v ps) (hl : ps.length ≤ 4096) (hs : s.size ≤ maxLen) :
  Calls Try.prog 24 #[v, .string s] w fun e w' => ∃ sa sc, e = .returned (.slice sa ps.length sc) ∧ w'.ownsRow w.heap.size 4 1 (.slice sa ps.length sc) ps.length (bls (mtsW ps s)) ∧ w.grownBy w' none := by
 obtain ⟨a, c, rfl⟩ := h.shape
 obtain ⟨n, hn⟩ : ∃ n, n = ps.length := ⟨_, rfl⟩
 have HN := Kh hn; have H := Kh h
 rw [← hn] at hl H ⊢
 clear h hn
 go_enter Try.func24, Try.ntmps24
 go_wp2
 go_loopg [5, 7, 10] n (fun gh v5 s7 i wr => ∃ (k : Nat) (sa : Option Addr) (sc : Nat), gh + k = n ∧ i = .int .i64 k ∧ v5 = .slice sa k sc ∧ wr.ownsRow w.heap.size 4 1 (.slice sa k sc) k (bls (mtsW (ps.take k) s)) ∧ w.grownBy wr none)
 case atStart => exact ⟨0, none, 0, rfl, rfl, rfl, World.ownsRow_nil _ _ _ _, zL _ _⟩
 case round =>
  obtain ⟨k, sa, sc, hgh, rfl, rfl, hown, hg⟩ := hrel
  have HGH := Kh hgh; have HG := Kh hg; have HO := Kh hown
  have hz := hg.size
  clear hgh hown
  by_cases hk : k < n
  ·have hk' : (k : Int) < n := by omega
   obtain ⟨b, off, cap, e, hbB, hb2, hb3, hall⟩ := (H.out.kept hg (by simp)).at_ (by rw [← HN.out]; omega)
   rw [← HN.out] at e hb2 hall
   simp only [Value.slice.injEq, true_and] at e
   obtain ⟨rfl, rfl⟩ := e
   obtain ⟨ea, ec, c1, hrow, hsz⟩ := hall k hk
   have HST : Hid (mtsW (ps.take (k + 1)) s = mtsW (ps.take k) s ++ [yG (ps.getD k []) s]) := Kh (mtsW_take (by rw [← HN.out]; exact hk))
   obtain ⟨q, hq⟩ : ∃ q, q = ps.getD k [] := ⟨_, rfl⟩
   rw [← hq] at c1 hrow hsz HST
   have hmx : c ≤ 9223372036854775807 := by unfold maxLen at hb3; omega
   have HM : Hid (∀ W : World, wr.grownBy W none → Calls Try.prog 65 #[.agg #[.slice ea q.length ec], .string s] W fun e w' => e = .returned (.bool (yG q s)) ∧ W.grownBy w' none) := Kh (fun W hW => rMatch_any B W _ q s (hrow.kept hW (by simp)) hsz hs)
   obtain ⟨ql, hql⟩ : ∃ n, n = q.length := ⟨_, rfl⟩
   obtain ⟨mm, hmm⟩ : ∃ m, m = yG q s := ⟨_, rfl⟩
   rw [← hql] at c1 HM
   rw [← hmm] at HM HST
   clear hall hrow hsz hq hql hmm hg
   go_wp2_with fail
   refine (HM.out _ (World.grownBy_alloc wr _ none)).mono ?_
   rintro e w1 ⟨rfl, hg1⟩
   have hg01 := zA (World.grownBy_alloc wr (.cells #[.slice ea ql ec] 28) none) hg1 (by simp)
   have HG1 := Kh hg01
   have HO1 := Kh (zV HO.out hg01)
   have hz1 := hg01.size
   clear hg1 hg01 HM c1
   go_wp2_with (first | (at_builtin; refine app1 rfl _ _ _ rfl qC w.heap.size (.slice sa k sc) k _ rfl HO1.out (.bool mm) rfl rfl ?c1 ?c2 ?c3 ?_) | fail)
   case c1 => unfold maxLen; omega
   case c2 => omega
   case c3 => omega
   intro sa' sc' w2 hown2 hg2 hlt2
   have HO2 : Hid (w2.ownsRow w.heap.size 4 1 (.slice sa' (k + 1) sc') (k + 1) (bls (mtsW (ps.take (k + 1)) s))) := Kh (by rw [HST.out]; simpa [bls] using hown2)
   have HG2 : Hid (w.grownBy w2 none) := Kh (zA (zA HG.out HG1.out (by simp)) hg2 (fun x e => (HO1.out.lt x e).1))
   clear hown2 hg2
   go_wp2
   go_roundg (n - (k + 1))
   case measure => have := HGH.out; omega
   case rel => exact ⟨k + 1, sa', sc', by have := HGH.out; omega, by go_num, rfl, HO2.out, HG2.out⟩
  ·have hkn : k = n := by have := HGH.out; omega
   have HE : Hid (ps.take k = ps) := Kh (List.take_of_length_le (by rw [← HN.out]; omega))
   rw [HE.out] at HO
   have hk' : ¬ (k : Int) < n := by omega
   subst hkn
   clear hg
   go_wp2
   go_ret
   exact ⟨sa, sc, rfl, HO.out, HG.out⟩
structure OwnsT (base : Nat) (W : World) (hs : List Value) (t : List (List Int)) : Prop where
 len : hs.length = t.length
 own : ∀ i (h : i < hs.length) (h' : i < t.length), W.ownsRow base 3 1 hs[i] t[i].length (ints t[i])
 dis : ∀ i j (hi : i < hs.length) (hj : j < hs.length), i ≠ j → ∀ k, hs[i].ownBlock = some k → hs[j].ownBlock ≠ some k
section
variable {base : Nat} {W W' : World} {hs : List Value} {t : List (List Int)}
theorem OwnsT.nil : OwnsT base W [] [] := ⟨rfl, fun i h => by simp at h, fun i j h => by simp at h⟩
theorem OwnsT.rowsT (h : OwnsT base W hs t) : wL W.heap.size 3 ints W hs t := ⟨h.len, fun i h1 h2 => RowT.of_owns (h.own i h1 h2)⟩
theorem owns_keep {row : Option Nat} {v : Value} {n : Nat} {xs : List Value} (h : W.ownsRow base 3 1 v n xs) (hg : W.grownBy W' row) (hr : ∀ k, row = some k → k < base ∨ zY W 3 k) : W'.ownsRow base 3 1 v n xs := by
 refine h.kept hg ?_
 rcases hv : v.ownBlock with _ | k
 ·exact .inl rfl
 ·refine .inr fun e => ?_
  rcases hr k e.symm with hk | ⟨c, e', m, hp, hne⟩
  ·have := (h.lt k hv).1; omega
  ·exact zS h hp (Ne.symm hne) hv
theorem OwnsT.kept {row : Option Nat} (h : OwnsT base W hs t) (hg : W.grownBy W' row) (hr : ∀ k, row = some k → k < base ∨ zY W 3 k) : OwnsT base W' hs t :=
 ⟨h.len, fun i h1 h2 => owns_keep (h.own i h1 h2) hg hr, h.dis⟩
theorem OwnsT.snoc {v : Value} {r : List Int} (h : OwnsT base W hs t) (ho : W.ownsRow base 3 1 v r.length (ints r)) (hd : ∀ i (hi : i < hs.length), ∀ k, hs[i].ownBlock = some k → v.ownBlock ≠ some k) : OwnsT base W (hs ++ [v]) (t ++ [r]) := by
 have hl := h.len
 refine ⟨by simp [hl], fun i h1 h2 => ?_, fun i j hi hj hij k hk => ?_⟩
 ·by_cases hi : i < hs.length
  ·have := h.own i hi (by omega)
   rw [List.getElem_append_left hi]
   simp only [List.getElem_append_left (show i < t.length by omega)]
   exact this
  ·have e : i = hs.length := by simp at h1; omega
   subst e
   rw [List.getElem_append_right (Nat.le_refl _)]
   simp only [List.getElem_append_right (show t.length ≤ hs.length by omega)]
   simpa [hl] using ho
 ·simp only [List.length_append, List.length_singleton] at hi hj
  by_cases h1 : i < hs.length
  ·rw [List.getElem_append_left h1] at hk
   by_cases h2 : j < hs.length
   ·rw [List.getElem_append_left h2]; exact h.dis i j h1 h2 hij k hk
   ·have e : j = hs.length := by omega
    subst e
    rw [List.getElem_append_right (Nat.le_refl _)]
    simpa using hd i h1 k hk
  ·have e : i = hs.length := by omega
   subst e
   rw [List.getElem_append_right (Nat.le_refl _)] at hk
   have h2 : j < hs.length := by omega
   rw [List.getElem_append_left h2]
   intro e
   exact hd j h2 k e (by simpa using hk)
theorem OwnsT.lt (h : OwnsT base W hs t) {i : Nat} (hi : i < hs.length) {k : Nat} (hk : hs[i].ownBlock = some k) : base ≤ k ∧ k < W.heap.size := (h.own i hi (by rw [← h.len]; exact hi)).lt k hk
theorem OwnsT.at (h : OwnsT base W hs t) {q : Nat} (hq : q < t.length) (hp : 0 < (t.getD q []).length) : ∃ g c, hs[q]? = some (.slice (some ⟨g, 0, none⟩) (t.getD q []).length c) ∧ (t.getD q []).length ≤ c ∧ c ≤ maxLen ∧ base ≤ g ∧ Arr W g 3 (ints (t.getD q [])) := by
 have hq' : q < hs.length := by rw [h.len]; exact hq
 have ho := h.own q hq' hq
 have e : t.getD q [] = t[q] := by simp [List.getD_eq_getElem?_getD, hq]
 rw [e] at hp ⊢
 obtain ⟨sa, sc, hv⟩ := sD ho
 rw [hv] at ho
 obtain ⟨kb, rfl, h1, h2, h3⟩ := xJ ho hp
 refine ⟨kb, sc, by rw [List.getElem?_eq_getElem hq', hv], h1, h2, (ho.lt kb rfl).1, h3⟩
theorem OwnsT.poke (h : OwnsT base W hs t) {q g a c n : Nat} (hv : hs[q]? = some (.slice (some ⟨g, 0, none⟩) n c)) (ha : a < (t.getD q []).length) (x : Int) : OwnsT base (W.setCell ⟨g, a, none⟩ (.int .i64 x)) hs (t.set q ((t.getD q []).set a x)) := by
 obtain ⟨hq, he⟩ := List.getElem?_eq_some_iff.1 hv
 have hl := h.len
 have hg := zD W ⟨g, a, none⟩ (.int .i64 x)
 refine ⟨by simp [hl], fun i h1 h2 => ?_, h.dis⟩
 rw [List.length_set] at h2
 by_cases e : q = i
 ·subst e
  have ho := h.own q h1 h2
  have e2 : t.getD q [] = t[q] := by simp [List.getD_eq_getElem?_getD, h2]
  rw [e2] at ha
  simp only [List.getElem_set_self, e2]
  rw [he] at ho ⊢
  obtain ⟨hl1, ho⟩ := ho
  refine ⟨by simp [ints], ?_⟩
  rcases ho with ⟨h7, _⟩ | ⟨g', cap, cur, hs', hb, hgc, hc1, hc2, hc3, hc4⟩
  ·simp at h7
  ·simp only [Value.slice.injEq, Option.some.injEq, Addr.mk.injEq, and_true] at hs'
   obtain ⟨rfl, hn, rfl⟩ := hs'
   subst hn
   refine .inr ⟨g, c, cur.setIfInBounds a (.int .i64 x), by simp, hb, heap_setCell_same W g a _ _ _ hgc, by simpa using hc1, hc2, by simpa using hc3, ?_⟩
   simp only [List.length_set, Nat.mul_one] at hc4 ⊢
   rw [Array.toList_setIfInBounds, List.take_set, hc4]
   simp [ints, List.map_set]
 ·have ho := h.own i h1 h2
  simp only [List.getElem_set_ne e]
  exact ho.kept hg (by
   rcases hv2 : hs[i].ownBlock with _ | k
   ·exact .inl rfl
   ·refine .inr fun e3 => ?_
    have e3 := Option.some.inj e3
    subst e3
    exact h.dis i q h1 hq (fun e4 => e e4.symm) _ hv2 (by rw [he]; rfl))
end
structure Half (base : Nat) (W : World) (o : Nat) (L S : Int) (fs : List Bool) (t : List (List Int)) (hs : List Value) (sf : Option Addr) (cf : Nat) (sn : Option Addr) (cn : Nat) : Prop where
 box : W.heap[o]? = some (.cells #[.int .i64 L, .int .i64 S, .slice sf fs.length cf, .slice sn t.length cn] 42 (0, 0))
 ownF : W.ownsRow base 4 1 (.slice sf fs.length cf) fs.length (bls fs)
 ownN : W.ownsRow base 34 1 (.slice sn t.length cn) t.length hs
 rows : OwnsT base W hs t
section
variable {base o : Nat} {W W' : World} {L S : Int} {fs : List Bool} {t : List (List Int)} {hs : List Value} {sf sn : Option Addr} {cf cn : Nat}
theorem Half.built (h : Half base W o L S fs t hs sf cf sn cn) (hl : fs.length = t.length) : Built base W o L S fs t hs sf cf sn cn := ⟨h.box, h.ownF, h.ownN, h.rows.rowsT, hl⟩
theorem Half.far {r : Nat} {cs : Array Value} {m : Nat × Nat} (h : Half base W o L S fs t hs sf cf sn cn) (hg : W.grownBy W' (some r)) (hr : W.heap[r]? = some (.cells cs 42 m)) (hne : r ≠ o) : Half base W' o L S fs t hs sf cf sn cn where
 box := zB h.box hg (fun e => hne (Option.some.inj e))
 ownF := h.ownF.kept hg (.inr (zS h.ownF hr (by decide)))
 ownN := h.ownN.kept hg (.inr (zS h.ownN hr (by decide)))
 rows := h.rows.kept hg (fun k hk => .inr (by have := Option.some.inj hk; subst this; exact ⟨_, _, _, hr, by decide⟩))
theorem Half.grow (h : Half base W o L S fs t hs sf cf sn cn) (hg : W.grownBy W' none) : Half base W' o L S fs t hs sf cf sn cn where
 box := zB h.box hg (by simp)
 ownF := yI h.ownF hg (by simp)
 ownN := yI h.ownN hg (by simp)
 rows := h.rows.kept hg (by simp)
theorem Half.tape {B tb : Nat} (h : Half base W o L S fs t hs sf cf sn cn) (hT : xC B W tb) (hg : W.grownBy W' (some tb)) : Half base W' o L S fs t hs sf cf sn cn := by
 obtain ⟨sl, zs, n, hr, _⟩ := hT
 refine ⟨zB h.box hg (fun e => ?_), h.ownF.kept hg (.inr (zS h.ownF hr (by decide))), h.ownN.kept hg (.inr (zS h.ownN hr (by decide))), ?_⟩
 ·have e := Option.some.inj e
  have h1 := h.box
  rw [← e, hr] at h1
  simp at h1
 ·exact h.rows.kept hg (fun k hk => .inr (by have := Option.some.inj hk; subst this; exact ⟨_, _, _, hr, by decide⟩))
theorem owns_two {w : World} {base e e' n n' : Nat} {v v' : Value} {xs ys : List Value} (h : w.ownsRow base e 1 v n xs) (h' : w.ownsRow base e' 1 v' n' ys) (hne : e ≠ e') : v.ownBlock = none ∨ v.ownBlock ≠ v'.ownBlock := by
 rcases hv : v.ownBlock with _ | k
 ·exact .inl rfl
 ·refine .inr (fun e2 => ?_)
  obtain ⟨c, e3, m, hp, h3⟩ := yB h' (Ne.symm hne) k e2.symm
  exact zS h hp (Ne.symm h3) hv
theorem Half.pushF {b : Bool} {sf' : Option Addr} {cf' : Nat} (h : Half base W o L S fs t hs sf cf sn cn) (ho : W'.ownsRow base 4 1 (.slice sf' (fs.length + 1) cf') (fs.length + 1) (bls fs ++ [.bool b])) (hg : W.grownBy W' (Value.slice sf fs.length cf).ownBlock) {W2 : World} (hW2 : W2 = W'.setCell ⟨o, 2, none⟩ (.slice sf' (fs.length + 1) cf')) :
  Half base W2 o L S (fs ++ [b]) t hs sf' cf' sn cn ∧ ∀ w0 : World, w0.grownBy W (some o) → w0.heap.size ≤ base → w0.grownBy W2 (some o) := by
 have hbox := zB h.box hg (fun e => zS h.ownF h.box (by decide) e)
 have s1 := heap_setCell_same W' o 2 _ _ (.slice sf' (fs.length + 1) cf') hbox
 have g1 : W'.grownBy W2 (some o) := by rw [hW2]; exact zD W' ⟨o, 2, none⟩ _
 have hoth : zY W' 3 o := ⟨_, _, _, hbox, by decide⟩
 have hN := h.ownN.kept hg (owns_two h.ownN h.ownF (by decide))
 have hR := h.rows.kept hg (fun k hk => .inr (yB h.ownF (by decide) k hk))
 refine ⟨⟨?_, ?_, hN.kept g1 (.inr (zS hN hbox (by decide))), hR.kept g1 (fun k hk => .inr (by have := Option.some.inj hk; subst this; exact hoth))⟩, fun w0 hw0 hb => ?_⟩
 ·rw [hW2, s1]; simp
 ·have := ho.kept g1 (.inr (zS ho hbox (by decide)))
  rw [List.length_append]
  simpa [bls] using this
 ·exact zF (zA hw0 hg (fun k hk => Nat.le_trans hb (h.ownF.lt k hk).1)) g1
theorem Half.pushN {row : List Int} {rv : Value} {sn' : Option Addr} {cn' : Nat} (h : Half base W o L S fs t hs sf cf sn cn) (ho : W'.ownsRow base 34 1 (.slice sn' (t.length + 1) cn') (t.length + 1) (hs ++ [rv])) (hg : W.grownBy W' (Value.slice sn t.length cn).ownBlock)
  (hrow : W.ownsRow base 3 1 rv row.length (ints row)) (hdis : ∀ i (hi : i < hs.length), ∀ k, hs[i].ownBlock = some k → rv.ownBlock ≠ some k) {W2 : World} (hW2 : W2 = W'.setCell ⟨o, 3, none⟩ (.slice sn' (t.length + 1) cn')) :
  Half base W2 o L S fs (t ++ [row]) (hs ++ [rv]) sf cf sn' cn' ∧ ∀ w0 : World, w0.grownBy W (some o) → w0.heap.size ≤ base → w0.grownBy W2 (some o) := by
 have hbox := zB h.box hg (fun e => zS h.ownN h.box (by decide) e)
 have s1 := heap_setCell_same W' o 3 _ _ (.slice sn' (t.length + 1) cn') hbox
 have g1 : W'.grownBy W2 (some o) := by rw [hW2]; exact zD W' ⟨o, 3, none⟩ _
 have hoth : zY W' 3 o := ⟨_, _, _, hbox, by decide⟩
 have hF := h.ownF.kept hg (owns_two h.ownF h.ownN (by decide))
 have hR := (h.rows.snoc hrow hdis).kept hg (fun k hk => .inr (yB h.ownN (by decide) k hk))
 refine ⟨⟨?_, hF.kept g1 (.inr (zS hF hbox (by decide))), ?_, hR.kept g1 (fun k hk => .inr (by have := Option.some.inj hk; subst this; exact hoth))⟩, fun w0 hw0 hb => ?_⟩
 ·rw [hW2, s1]; simp
 ·have := ho.kept g1 (.inr (zS ho hbox (by decide)))
  rw [List.length_append]
  exact this
 ·exact zF (zA hw0 hg (fun k hk => Nat.le_trans hb (h.ownN.lt k hk).1)) g1
end
def DfaOwn (w w' : World) (v : Value) (m : DfaV) : Prop := ∃ (o : Nat) (hs : List Value) (sf : Option Addr) (cf : Nat) (sn : Option Addr) (cn : Nat),
 v = .agg #[.int .i64 m.letters, .int .i64 m.start, .slice sf m.final.length cf, .slice sn m.next.length cn] ∧ w.heap.size ≤ o ∧ Half w.heap.size w' o m.letters m.start m.final m.next hs sf cf sn cn
theorem Half.base {base base' o : Nat} {W : World} {L S : Int} {fs : List Bool} {t : List (List Int)} {hs : List Value} {sf sn : Option Addr} {cf cn : Nat} (h : Half base W o L S fs t hs sf cf sn cn) (hb : base' ≤ base) : Half base' W o L S fs t hs sf cf sn cn :=
 ⟨h.box, xB h.ownF hb, xB h.ownN hb, ⟨h.rows.len, fun i h1 h2 => xB (h.rows.own i h1 h2) hb, h.rows.dis⟩⟩
theorem Half.at {base o : Nat} {W : World} {L S : Int} {fs : List Bool} {t : List (List Int)} {hs : List Value} {sf sn : Option Addr} {cf cn : Nat} (h : Half base W o L S fs t hs sf cf sn cn) {q : Nat} (hq : q < t.length) (hp : 0 < (t.getD q []).length) :
  ∃ kb g c, sn = some ⟨kb, 0, none⟩ ∧ t.length ≤ cn ∧ cn ≤ maxLen ∧ hs[q]? = some (.slice (some ⟨g, 0, none⟩) (t.getD q []).length c) ∧ W.cell? ⟨kb, q, none⟩ = some (.slice (some ⟨g, 0, none⟩) (t.getD q []).length c) ∧ (t.getD q []).length ≤ c ∧ c ≤ maxLen ∧ base ≤ g ∧ Arr W g 3 (ints (t.getD q [])) := by
 obtain ⟨kb, rfl, h1, h2, h3⟩ := xJ h.ownN (by omega)
 obtain ⟨g, c, h4, h5, h6, h7, h8⟩ := h.rows.at hq hp
 obtain ⟨hq', he⟩ := List.getElem?_eq_some_iff.1 h4
 exact ⟨kb, g, c, rfl, h1, h2, h4, by rw [h3.cell q hq', he], h5, h6, h7, h8⟩
theorem Half.poke {base o : Nat} {W : World} {L S : Int} {fs : List Bool} {t : List (List Int)} {hs : List Value} {sf sn : Option Addr} {cf cn : Nat} (h : Half base W o L S fs t hs sf cf sn cn) {q g a c n : Nat} (hv : hs[q]? = some (.slice (some ⟨g, 0, none⟩) n c)) (hA : Arr W g 3 (ints (t.getD q []))) (ha : a < (t.getD q []).length) (x : Int) :
  Half base (W.setCell ⟨g, a, none⟩ (.int .i64 x)) o L S fs (t.set q ((t.getD q []).set a x)) hs sf cf sn cn := by
 obtain ⟨cur, rest, hg, _⟩ := hA
 have hgr := zD W ⟨g, a, none⟩ (.int .i64 x)
 refine ⟨?_, h.ownF.kept hgr (.inr (zS h.ownF hg (by decide))), ?_, h.rows.poke hv ha x⟩
 ·rw [List.length_set]
  refine zB h.box hgr (fun e => ?_)
  have e : g = o := Option.some.inj e
  subst e
  have := h.box
  rw [hg] at this
  simp at this
 ·rw [List.length_set]
  exact h.ownN.kept hgr (.inr (zS h.ownN hg (by decide)))
theorem Half.move {base o o' : Nat} {W : World} {L S L' S' : Int} {fs : List Bool} {t : List (List Int)} {hs : List Value} {sf sn : Option Addr} {cf cn : Nat} (h : Half base W o L S fs t hs sf cf sn cn) (hb : W.heap[o']? = some (.cells #[.int .i64 L', .int .i64 S', .slice sf fs.length cf, .slice sn t.length cn] 42 (0, 0))) : Half base W o' L' S' fs t hs sf cf sn cn := ⟨hb, h.ownF, h.ownN, h.rows⟩
def sW (t : List (List Int)) (n k : Nat) : Prop := ∀ r ∈ t, r.length = k ∧ ∀ x ∈ r, 0 ≤ x ∧ x < n
theorem sW.set {t : List (List Int)} {n k q a : Nat} {x : Int} (h : sW t n k) (hq : q < t.length) (h0 : 0 ≤ x) (hx : x < n) : sW (t.set q ((t.getD q []).set a x)) n k := by
 intro r hr
 rcases List.mem_or_eq_of_mem_set hr with hr | rfl
 ·exact h r hr
 ·have := h _ (oI (d := []) hq)
  refine ⟨by rw [List.length_set]; exact this.1, fun y hy => ?_⟩
  rcases List.mem_or_eq_of_mem_set hy with hy | rfl
  ·exact this.2 y hy
  ·exact ⟨h0, hx⟩
theorem sW.vd {t : List (List Int)} {n k : Nat} {S : Int} {fs : List Bool} (h : sW t n k) (h1 : 1 ≤ k) (h6 : k ≤ 6) (hn : 1 ≤ n) (h512 : n ≤ 512) (hf : fs.length = n) (ht : t.length = n) (hs0 : 0 ≤ S) (hs1 : S < n) : VD ⟨k, S, fs, t⟩ n k := by
 refine ⟨rfl, h1, h6, hf, hn, by omega, ht, hs0, hs1, fun q hq => ?_, fun q a hq ha => ?_, fun q a hq ha => ?_⟩
 ·have hq2 : q < t.length := by omega
  exact (h _ (oI hq2)).1
 ·have hq2 : q < t.length := by omega
  have h := h (t.getD q []) (oI hq2)
  have ha2 : a < (t.getD q []).length := by omega
  exact (h.2 ((t.getD q []).getD a 0) (oI ha2)).1
 ·have hq2 : q < t.length := by omega
  have h := h (t.getD q []) (oI hq2)
  have ha2 : a < (t.getD q []).length := by omega
  exact (h.2 ((t.getD q []).getD a 0) (oI ha2)).2
def DealtDfa (B tb : Nat) (w : World) (letters most : Nat) (e : Ending) (w' : World) : Prop :=
 ∃ (v : Value) (m : DfaV) (n : Nat), e = .returned v ∧ DfaOwn w w' v m ∧ VD m n letters ∧ n ≤ most ∧ xC B w' tb ∧ w.grownBy w' (some tb)
set_option maxRecDepth 100000 in
set_option maxHeartbeats 1000000 in
theorem mdfa_any (B tb : Nat) (w : World) (letters most : Nat) (h1 : 1 ≤ letters) (h6 : letters ≤ 6) (hm1 : 1 ≤ most) (hm : most ≤ 500) (hT : xC B w tb) :
  Calls Try.prog 50 #[.pointer (some ⟨tb, 0, none⟩), .int .i64 (letters : Int), .int .i64 (most : Int)] w (DealtDfa B tb w letters most) := by
 have htb := hT.lt
 have hBt := hT.ge
 obtain ⟨wA, hWA⟩ : ∃ wA, wA = (w.alloc (.cells #[.int .i64 0, .int .i64 0, .slice none 0 0, .slice none 0 0] 42)).alloc (.cells #[.int .i64 letters, .int .i64 0, .slice none 0 0, .slice none 0 0] 42) := ⟨_, rfl⟩
 obtain ⟨hb1, hb2, hgA, hzA⟩ := rY w #[.int .i64 0, .int .i64 0, .slice none 0 0, .slice none 0 0] #[.int .i64 letters, .int .i64 0, .slice none 0 0, .slice none 0 0] 42
 rw [← hWA] at hb1 hb2 hgA hzA
 obtain ⟨P, hP⟩ : ∃ P, P = w.heap.size := ⟨_, rfl⟩
 have HPE := Kh hP
 rw [← hP] at hb1 hb2 hzA htb
 have hTA := hT.kept hgA (by simp)
 have HB1 := Kh hb1; have HB2 := Kh hb2; have HGA := Kh hgA; have HWA := Kh hWA; have HTA := Kh hTA
 clear hb1 hb2 hgA hWA hTA hT
 go_enter Try.func50, Try.ntmps50
 go_upto_region 2 with fail
 rw [← HWA.out, ← HPE.out]
 clear hP
 go_wp2_with fail
 refine (vB B tb _ _ (by omega) HTA.out).mono ?_
 rintro e w1 ⟨r, rfl, hr0, hr1, hT1, hg1⟩
 replace hr1 := hr1 (by omega)
 obtain ⟨n, rfl⟩ : ∃ n : Nat, r = (n : Int) - 1 := ⟨(r + 1).toNat, by omega⟩
 have hn1 : 1 ≤ n := by omega
 have hn2 : n ≤ most := by omega
 have hn0 : (1 : Int) + ((n : Int) - 1) = n := by omega
 have HT1 := Kh hT1; have HG1 := Kh hg1; have HN0 := Kh hn0
 clear hr0 hr1 hT1 hg1
 go_wp2_with fail
 refine (vB B tb _ _ (by omega) HT1.out).mono ?_
 rintro e w2 ⟨s, rfl, hs0, hs1, hT2, hg2⟩
 replace hs1 := hs1 (by omega)
 obtain ⟨s, rfl⟩ : ∃ s' : Nat, s = s' := ⟨s.toNat, by omega⟩
 have hg12 := zF HG1.out hg2
 have hbo := zB HB2.out hg12 (by simp; omega)
 obtain ⟨c0, c1, c2, c3⟩ := zG hbo
 have f1 := frozen_of_row w2 (P + 1) 1 _ _ hbo
 have HT2 := Kh hT2; have HG2 := Kh hg12
 clear hT2 hg2 hg12 HT1 HG1
 go_wp2
 obtain ⟨w3, hw3⟩ : ∃ w3, w3 = w2.setCell ⟨P + 1, 1, none⟩ (.int .i64 (s : Int)) := ⟨_, rfl⟩
 have hb3 : w3.heap[P + 1]? = some (.cells #[.int .i64 (letters : Int), .int .i64 (s : Int), .slice none 0 0, .slice none 0 0] 42 (0, 0)) := by rw [hw3, heap_setCell_same w2 (P + 1) 1 _ _ _ hbo]; simp
 have hg3 : w2.grownBy w3 (some (P + 1)) := by rw [hw3]; exact zD w2 ⟨P + 1, 1, none⟩ _
 have hb31 := zB (zB HB1.out HG2.out (by simp; omega)) hg3 (by simp)
 have hT3 := HT2.out.kept hg3 (fun k e => by have := Option.some.inj e; subst this; omega)
 have hgw : w.grownBy w3 (some tb) := zA (zF (zA (zL w (some tb)) HGA.out (by simp)) HG2.out) hg3 (fun x e => by have := Option.some.inj e; have := HPE.out; omega)
 have hH3 : Half (P + 1) w3 (P + 1) letters s [] [] [] none 0 none 0 := ⟨hb3, World.ownsRow_nil _ _ _ _, World.ownsRow_nil _ _ _ _, OwnsT.nil⟩
 have H3 := Kh hH3; have HB3 := Kh hb31; have HT3 := Kh hT3; have HG3 := Kh hgw
 rw [← hw3]
 clear hw3 hb3 hg3 hb31 hT3 hgw hH3 c0 c1 c2 c3 f1 hbo HT2 HG2
 go_loopg [9, 10, 11] n (fun gh i v10 v11 wr => ∃ (q : Nat) (fs : List Bool) (t : List (List Int)) (hs : List Value) (sf : Option Addr) (cf : Nat) (sn : Option Addr) (cn : Nat), gh + q = n ∧ i = .int .i64 q ∧ fs.length = q ∧ t.length = q ∧ sW t n letters ∧ Half (P + 1) wr (P + 1) letters s fs t hs sf cf sn cn ∧ xC B wr tb ∧ wr.heap[P]? = some (.cells #[.int .i64 0, .int .i64 0, .slice none 0 0, .slice none 0 0] 42 (0, 0)) ∧ w.grownBy wr (some tb))
 case atStart => exact ⟨0, [], [], [], none, 0, none, 0, by omega, rfl, rfl, rfl, (fun r hr => by simp at hr), H3.out, HT3.out, HB3.out, HG3.out⟩
 case round =>
  obtain ⟨q, fs, t, hs, sf, cf, sn, cn, hg, rfl, rfl, htl, hri, hH, hTr, hb1r, hgr⟩ := hrel
  have HG := Kh hg; have HH := Kh hH; have HTR := Kh hTr; have HB1R := Kh hb1r; have HGR := Kh hgr; have HRI := Kh hri
  clear hg hH hTr hb1r hgr hri H3 HB3 HT3 HG3
  by_cases hq : fs.length < n
  ·have hq' : (fs.length : Int) < n := by omega
   obtain ⟨w5, hw5⟩ : ∃ w5, w5 = wr.drew := ⟨_, rfl⟩
   have hg5 : wr.grownBy w5 none := by rw [hw5]; exact zP wr none
   have HW5 := Kh hw5
   have HH5 := Kh (HH.out.grow hg5); have HT5 := Kh (HTR.out.kept hg5 (by simp)); have HG5 := Kh (zA HGR.out hg5 (by simp)); have HB5 := Kh (zB HB1R.out hg5 (by simp))
   obtain ⟨d0, d1, d2, d3⟩ := zG HH5.out.box
   have C2 := Kh d2
   clear hw5 hg5 d0 d1 d2 d3 HH HTR HGR HB1R
   go_upto_region 7 with fail
   refine wp_region_noPanic ?_
   refine wC (G := uS 8 (fun _ => True) (fun W => W.cell? ⟨P + 1, 2, none⟩ = some (.slice sf fs.length cf))) (by kernel_rfl) ?_
   rw [← HW5.out]
   refine takeC (i := 0) (v := ?_) rfl rfl (Or.inl ⟨by rfl, ?_⟩) ⟨trivial, fun _ => C2.out⟩ ?_
   rotate_left
   ·(intro wz hz; (try dsimp only at hz); go_simp; (try with_reducible rfl))
   try simp only [Act.put, sPa, sPb, sPc]
   refine takeD (i := 1) (v := ?_) rfl rfl (Or.inl ⟨by rfl, ?_⟩) ⟨trivial, fun _ => C2.out⟩ ?_
   rotate_left
   ·(rintro wz ⟨-, hz⟩; (try dsimp only at hz); go_simp; (try with_reducible rfl))
   try simp only [Act.put, sPa, sPb, sPc]
   refine takeC (i := 2) (v := ?_) rfl rfl (Or.inl ⟨by rfl, ?_⟩) ⟨trivial, fun _ => C2.out⟩ ?_
   rotate_left
   ·(intro wz hz; (try dsimp only at hz); go_simp; (try with_reducible rfl))
   try simp only [Act.put, sPa, sPb, sPc]
   refine oneG (i := 3) (by kernel_rfl) rfl (fun K hK => ?_)
   go_simp
   go_at_call 15
   refine (vB B tb _ _ (by omega) HT5.out).mono ?_
   rintro e w6 ⟨b, rfl, hb0, hb1, hT6, hg6⟩
   have hH6 := HH5.out.tape HT5.out hg6
   obtain ⟨d0, d1, d2, d3⟩ := zG hH6.box
   have C2 := Kh d2
   refine hK.out _ _ ⟨trivial, fun _ => C2.out⟩ ?_
   clear hK K d0 d1 d2 d3
   try simp only [Act.put, sPa, sPb, sPc]
   refine takeC (i := 4) (v := ?_) rfl rfl (Or.inl ⟨by rfl, ?_⟩) ⟨trivial, fun _ => C2.out⟩ ?_
   rotate_left
   ·(intro wz hz; (try dsimp only at hz); go_simp; (try with_reducible rfl))
   try simp only [Act.put, sPa, sPb, sPc]
   refine oneG (i := 5) (by kernel_rfl) rfl (fun K hK => ?_)
   go_simp
   have hH7 := hH6.grow (World.grownBy_alloc w6 (.cells #[.bool (decide (b = 1))] 4) none)
   have hgn := heap_alloc_new w6 (.cells #[.bool (decide (b = 1))] 4)
   obtain ⟨d0, d1, d2, d3⟩ := zG hH7.box
   refine hK.out _ _ ⟨trivial, fun _ => d2⟩ ?_
   clear hK K d0 d1 d2 d3
   try simp only [Act.put, sPa, sPb, sPc]
   have hz7 : P + 2 ≤ w6.heap.size := by have := zN hH6.box; omega
   refine oneG (i := 6) (by kernel_rfl) rfl (fun K hK => ?_)
   refine pE rfl (.tmp 28) (.tmp 32) 39 rfl qC (P + 1) _ _ _ rfl hH7.ownF _ _ _ rfl hgn rfl ?g1 ?g2 ?g3 ?_
   case g1 => unfold maxLen; omega
   case g2 => omega
   case g3 => rw [zJ]; omega
   intro sa' sc' w8 hown8 hg8
   have hbx := zB hH7.box hg8 (fun e => zS hH7.ownF hH7.box (by decide) e)
   obtain ⟨d0, d1, d2, d3⟩ := zG hbx
   have f2 := zE hbx 2
   refine hK.out _ _ ⟨trivial, fun _ => d2⟩ ?_
   clear hK K
   try simp only [Act.put, sPa, sPb, sPc]
   have C2 := Kh d2
   refine takeC (i := 7) (v := ?_) rfl rfl (Or.inl ⟨by rfl, ?_⟩) ⟨trivial, fun _ => C2.out⟩ ?_
   rotate_left
   ·(intro wz hz; (try dsimp only at hz); go_simp; (try with_reducible rfl))
   try simp only [Act.put, sPa, sPb, sPc]
   refine oneG (i := 8) (by kernel_rfl) rfl (fun K hK => ?_)
   go_simp
   refine hK.out _ _ ⟨trivial, fun h => by simp at h⟩ ?_
   clear hK K d0 d1 d2 d3 f2 hbx
   try simp only [Act.put, sPa, sPb, sPc]
   refine kH (by kernel_rfl) ?_ _
   refine NoPanic.normal ?_
   obtain ⟨hF, hgF⟩ := hH7.pushF hown8 hg8 rfl
   have hT9 := ((hT6.kept (World.grownBy_alloc w6 (.cells #[.bool (decide (b = 1))] 4) none) (by simp)).kept hg8 (fun k e => by have := (hH7.ownF.lt k e).1; omega)).kept (zD w8 ⟨P + 1, 2, none⟩ (.slice sa' (fs.length + 1) sc')) (fun k e => by have e : P + 1 = k := Option.some.inj e; omega)
   have hb9 := zB (zB (zB (zB HB5.out hg6 (by simp; omega)) (World.grownBy_alloc w6 (.cells #[.bool (decide (b = 1))] 4) none) (by simp)) hg8 (fun e => by have := (hH7.ownF.lt _ e).1; omega)) (zD w8 ⟨P + 1, 2, none⟩ (.slice sa' (fs.length + 1) sc')) (by simp)
   have hg9 : w.grownBy (w8.setCell ⟨P + 1, 2, none⟩ (.slice sa' (fs.length + 1) sc')) (some tb) := zA (zA (zA (zF HG5.out hg6) (World.grownBy_alloc w6 (.cells #[.bool (decide (b = 1))] 4) none) (by simp)) hg8 (fun k e => by have := (hH7.ownF.lt k e).1; have := HPE.out; omega)) (zD w8 ⟨P + 1, 2, none⟩ (.slice sa' (fs.length + 1) sc')) (fun k e => by have e : P + 1 = k := Option.some.inj e; have := HPE.out; omega)
   obtain ⟨w9, hw9⟩ : ∃ w9, w9 = w8.setCell ⟨P + 1, 2, none⟩ (.slice sa' (fs.length + 1) sc') := ⟨_, rfl⟩
   rw [← hw9] at hF hT9 hb9 hg9 ⊢
   have HF := Kh hF; have HT9 := Kh hT9; have HB9 := Kh hb9; have HG9 := Kh hg9
   clear hw9 hgF hF hT9 hb9 hg9 hown8 hg8 hgn hH7 hH6 hT6 hg6 C2 HH5 HT5 HG5 HB5 HW5
   go_wp2
   go_loopg [10, 11] letters (fun gh ov i wx => ∃ (a : Nat) (row : List Int) (sr : Option Addr) (cr : Nat), gh + a = letters ∧ i = .int .i64 a ∧ row.length = a ∧ ov = .slice sr row.length cr ∧ (∀ x ∈ row, 0 ≤ x ∧ x < n) ∧ wx.ownsRow w9.heap.size 3 1 (.slice sr row.length cr) row.length (ints row) ∧ xC B wx tb ∧ w9.grownBy wx (some tb))
   case atStart => exact ⟨0, [], none, 0, by omega, rfl, rfl, rfl, (fun x hx => by simp at hx), World.ownsRow_nil _ _ _ _, HT9.out, zL _ _⟩
   case round =>
    obtain ⟨a, row, sr, cr, hg, rfl, rfl, rfl, hrl, hown, hTx, hgx⟩ := hrel
    have HGA2 := Kh hg; have HOWR := Kh hown; have HTX := Kh hTx; have HGX := Kh hgx
    clear hg hown hTx hgx
    by_cases ha : row.length < letters
    ·have ha' : (row.length : Int) < letters := by omega
     have htx := HTX.out.lt
     go_wp2_with fail
     refine (vB B tb _ _ (by omega) HTX.out).mono ?_
     rintro e wy ⟨x, rfl, hx0, hx1, hTy, hgy⟩
     replace hx1 := hx1 (by omega)
     have hzt : tb < w9.heap.size := HT9.out.lt
     have hownY := yI HOWR.out hgy (by simpa using hzt)
     have hzy := (zF HGX.out hgy).size
     have HOY := Kh hownY; have HTY := Kh hTy; have HGY := Kh (zF HGX.out hgy)
     clear hownY hTy hgy
     go_wp2_with (first | (at_builtin; refine app1 rfl _ _ _ rfl xP w9.heap.size _ row.length (ints row) rfl HOY.out _ rfl rfl ?c1 ?c2 ?c3 ?_) | fail)
     case c1 => unfold maxLen; omega
     case c2 => omega
     case c3 => exact hzy
     intro sr' cr' w10 hown10 hg10 hlt10
     have HO10 := Kh hown10
     have HT10 := Kh (HTY.out.kept hg10 (fun k e => by have := (HOY.out.lt k e).1; omega))
     have HG10 := Kh (zA HGY.out hg10 (fun k e => (HOY.out.lt k e).1))
     clear hown10 hg10
     go_wp2
     go_roundg (letters - (row.length + 1))
     case measure => have := HGA2.out; omega
     case rel =>
      refine ⟨row.length + 1, row ++ [x], sr', cr', by omega, by go_num, by simp, by simp, ?_, ?_, HT10.out, HG10.out⟩
      ·intro y hy
       rcases List.mem_append.1 hy with hy | hy
       ·exact hrl y hy
       ·rw [List.mem_singleton] at hy; subst hy; exact ⟨hx0, hx1⟩
      ·rw [show ints (row ++ [x]) = ints row ++ [.int .i64 x] by simp [ints], List.length_append, List.length_singleton]
       exact HO10.out
    ·have hrn : row.length = letters := by have := HGA2.out; omega
     have hH := HF.out.tape HT9.out HGX.out
     have hzp : P + 1 ≤ w9.heap.size := Nat.le_of_lt (zN HF.out.box)
     have hrow := xB HOWR.out hzp
     have hdis : ∀ i (hi : i < hs.length), ∀ k, hs[i].ownBlock = some k → (Value.slice sr row.length cr).ownBlock ≠ some k := fun i hi k hk e => by
      have h1 := (HF.out.rows.lt hi hk).2
      have h2 := (HOWR.out.lt k e).1
      omega
     have HDIS := Kh hdis
     obtain ⟨d0, d1, d2, d3⟩ := zG hH.box
     have hzx := zN hH.box
     have hlt9 := HT9.out.lt
     have HHX := Kh hH; have HRW := Kh hrow; have HRN := Kh hrn
     have HGW := Kh (zF HG9.out HGX.out); have HBX := Kh (zB HB9.out HGX.out (by simp; omega))
     clear hH hrow hrn hdis d0 d1 d2 HOWR HGX HF HT9 HG9 HB9
     have HON := Kh HHX.out.ownN
     have HTL := Kh htl
     clear htl
     go_wp2_with (first | (at_builtin; refine app1 rfl _ _ _ rfl qY (P + 1) _ t.length hs rfl HON.out _ rfl rfl ?c1 ?c2 ?c3 ?_) | fail)
     case c1 => have := HTL.out; unfold maxLen; omega
     case c2 => have := HTL.out; omega
     case c3 => omega
     intro sn' cn' w11 hown11 hg11 hlt11
     have hbx := zB HHX.out.box hg11 (fun e => zS HHX.out.ownN HHX.out.box (by decide) e)
     obtain ⟨d0, d1, d2, d3⟩ := zG hbx
     have f2 := zE hbx 3
     obtain ⟨hN, hgN⟩ := HHX.out.pushN hown11 hg11 HRW.out HDIS.out rfl
     have hTN := (HTX.out.kept hg11 (fun k e => by have := (HHX.out.ownN.lt k e).1; omega)).kept (zD w11 ⟨P + 1, 3, none⟩ (.slice sn' (t.length + 1) cn')) (fun k e => by have e : P + 1 = k := Option.some.inj e; omega)
     have hbN := zB (zB HBX.out hg11 (fun e => by have := (HHX.out.ownN.lt _ e).1; omega)) (zD w11 ⟨P + 1, 3, none⟩ (.slice sn' (t.length + 1) cn')) (by simp)
     have hgN2 : w.grownBy (w11.setCell ⟨P + 1, 3, none⟩ (.slice sn' (t.length + 1) cn')) (some tb) := zA (zA HGW.out hg11 (fun k e => by have := (HHX.out.ownN.lt k e).1; have := HPE.out; omega)) (zD w11 ⟨P + 1, 3, none⟩ (.slice sn' (t.length + 1) cn')) (fun k e => by have e : P + 1 = k := Option.some.inj e; have := HPE.out; omega)
     have HGK := Kh hN; have HTN2 := Kh hTN; have HBN2 := Kh hbN; have HGN2 := Kh hgN2
     clear hgN hbx hN hTN hbN hgN2 hown11 hg11
     go_wp2
     go_roundg (n - (fs.length + 1))
     case measure => have := HG.out; omega
     case rel =>
      refine ⟨fs.length + 1, fs ++ [decide (b = 1)], t ++ [row], _, sa', sc', sn', cn', by omega, by go_num, by simp, by simp [HTL.out], ?_, HGK.out, HTN2.out, HBN2.out, HGN2.out⟩
      intro r hr
      rcases List.mem_append.1 hr with hr | hr
      ·exact HRI.out r hr
      ·rw [List.mem_singleton] at hr; subst hr; exact ⟨HRN.out, hrl⟩
  ·have hfn : fs.length = n := by have := HG.out; omega
   have hB := HH.out
   have HFN := Kh hfn; have HBU := Kh hB
   obtain ⟨d0, d1, d2, d3⟩ := zG HH.out.box
   obtain ⟨e0, e1, e2, e3⟩ := zG HB1R.out
   have f0 := zE HB1R.out 0; have f1 := zE HB1R.out 1; have f2 := zE HB1R.out 2; have f3 := zE HB1R.out 3
   have HTL := Kh htl
   clear hB hfn htl
   go_wp2
   refine bodyPost_ret (v := .agg #[.int .i64 letters, .int .i64 s, .slice sf fs.length cf, .slice sn t.length cn]) (by simp [results, Try.results50, go_sem, e0, e1, e2, e3]) rfl ?_
   obtain ⟨hsR, hgR⟩ := vD HB1R.out (.int .i64 letters) (.int .i64 s) (.slice sf fs.length cf) (.slice sn t.length cn)
   have htb2 := HTR.out.lt
   have hfn := HFN.out; have htl := HTL.out
   refine ⟨_, ⟨letters, s, fs, t⟩, n, rfl, ⟨P + 1, hs, sf, cf, sn, cn, rfl, by have := HPE.out; omega, (HBU.out.base (by have := HPE.out; omega)).far hgR HB1R.out (by omega)⟩, HRI.out.vd h1 h6 hn1 (by omega) hfn (htl.trans hfn) hs0 hs1, hn2, HTR.out.kept hgR (fun k e => by have e : P = k := Option.some.inj e; omega), zA HGR.out hgR (fun k e => by have e : P = k := Option.some.inj e; have := HPE.out; omega)⟩
def mL (R : DfaV → Nat → Prop) (B tb : Nat) (w : World) (letters most : Nat) (e : Ending) (w' : World) : Prop :=
 ∃ (v : Value) (m : DfaV) (n : Nat), e = .returned v ∧ DfaOwn w w' v m ∧ VD m n letters ∧ n ≤ most ∧ R m n ∧ xC B w' tb ∧ w.grownBy w' (some tb)
def OrdTo (t : List (List Int)) (k q a : Nat) : Prop := ∀ q' a', a' < k → (q' < q ∨ (q' = q ∧ a' < a)) → (q' : Int) ≤ ent t q' a'
def OrdD (m : DfaV) (n : Nat) : Prop := m.start = 0 ∧ ∀ k : Nat, m.letters = k → OrdTo m.next k n 0
theorem oF {t : List (List Int)} {q a q' a' : Nat} {x : Int} (hq : q < t.length) (ha : a < (t.getD q []).length) : ent (t.set q ((t.getD q []).set a x)) q' a' = if q' = q ∧ a' = a then x else ent t q' a' := by
 unfold ent
 by_cases h : q' = q
 ·subst h
  rw [jV _ _ _ _ hq]
  by_cases h2 : a' = a
  ·subst h2; rw [jV _ _ _ _ ha]; simp
  ·rw [getD_set_ne _ _ _ _ _ (Ne.symm h2)]; simp [h2]
 ·rw [getD_set_ne _ _ _ _ _ (Ne.symm h)]; simp [h]
theorem OrdTo.step {t : List (List Int)} {k q a : Nat} {x : Int} (h : OrdTo t k q a) (hq : q < t.length) (ha : a < (t.getD q []).length) (hx : (q : Int) ≤ x) : OrdTo (t.set q ((t.getD q []).set a x)) k q (a + 1) := by
 intro q' a' h1 h2
 rw [oF hq ha]
 split
 ·rename_i h3; rw [h3.1]; exact hx
 ·rename_i h3
  refine h q' a' h1 ?_
  rcases h2 with h2 | ⟨h2, h4⟩
  ·exact .inl h2
  ·exact .inr ⟨h2, by
    rcases Nat.lt_or_ge a' a with h5 | h5
    ·exact h5
    ·exact absurd ⟨h2, by omega⟩ h3⟩
theorem sW.ent {t : List (List Int)} {n k q a : Nat} (h : sW t n k) (hq : q < t.length) (ha : a < k) : 0 ≤ ent t q a ∧ ent t q a < n := by
 have h := h (t.getD q []) (oI hq)
 have ha2 : a < (t.getD q []).length := by omega
 exact h.2 ((t.getD q []).getD a 0) (oI ha2)
theorem Half.start {base o : Nat} {W : World} {L S : Int} {fs : List Bool} {t : List (List Int)} {hs : List Value} {sf sn : Option Addr} {cf cn : Nat} (h : Half base W o L S fs t hs sf cf sn cn) (S' : Int) : Half base (W.setCell ⟨o, 1, none⟩ (.int .i64 S')) o L S' fs t hs sf cf sn cn := by
 have hgr := zD W ⟨o, 1, none⟩ (.int .i64 S')
 have s1 := heap_setCell_same W o 1 _ _ (.int .i64 S') h.box
 refine ⟨by rw [s1]; simp, h.ownF.kept hgr (.inr (zS h.ownF h.box (by decide))), h.ownN.kept hgr (.inr (zS h.ownN h.box (by decide))), h.rows.kept hgr (fun k e => .inr ?_)⟩
 have e : o = k := Option.some.inj e
 subst e
 exact ⟨_, _, _, h.box, by decide⟩
set_option maxRecDepth 100000 in
set_option maxHeartbeats 1000000 in
theorem mord_any (B tb : Nat) (w : World) (letters most : Nat) (h1 : 1 ≤ letters) (h6 : letters ≤ 6) (hm1 : 1 ≤ most) (hm : most ≤ 500) (hT : xC B w tb) :
    Calls Try.prog 47 #[.pointer (some ⟨tb, 0, none⟩), .int .i64 (letters : Int), .int .i64 (most : Int)] w (mL OrdD B tb w letters most) := by
  have htb := hT.lt
  have hBt := hT.ge
  obtain ⟨P, hP⟩ : ∃ P, P = w.heap.size := ⟨_, rfl⟩
  have HPE := Kh hP
  obtain ⟨wA, hWA⟩ : ∃ wA, wA = w.alloc (.cells #[.int .i64 0, .int .i64 0, .slice none 0 0, .slice none 0 0] 42) := ⟨_, rfl⟩
  have hbA := heap_alloc_new w (.cells #[.int .i64 0, .int .i64 0, .slice none 0 0, .slice none 0 0] 42)
  have hgA := World.grownBy_alloc w (.cells #[.int .i64 0, .int .i64 0, .slice none 0 0, .slice none 0 0] 42) none
  have hzA := zJ w (.cells #[.int .i64 0, .int .i64 0, .slice none 0 0, .slice none 0 0] 42)
  rw [← hWA] at hbA hgA hzA
  rw [← hP] at hbA hzA htb
  have HTA := Kh (hT.kept hgA (by simp))
  have HBA := Kh hbA; have HGA := Kh hgA; have HWA := Kh hWA
  have HD := Kh (mdfa_any B tb wA letters most h1 h6 hm1 hm HTA.out)
  clear hbA hgA hWA hT
  go_enter Try.func47, Try.ntmps47
  go_upto_region 1 with fail
  rw [← HWA.out, ← HPE.out]
  clear hP
  go_wp2_with fail
  refine HD.out.mono ?_
  rintro e w1 ⟨v, ⟨L, S, fs, t⟩, n, rfl, hown, hvd, hnm, hT1, hg1⟩
  obtain ⟨o, hs, sf, cf, sn, cn, rfl, ho, hH⟩ := hown
  have hL : L = letters := hvd.hk
  subst hL
  have hfn : fs.length = n := hvd.hn
  have htn : t.length = n := hvd.nl
  have hri : sW t n letters := fun r hr => by
    obtain ⟨q, hq, rfl⟩ := List.getElem_of_mem hr
    have e : t.getD q [] = t[q] := by simp [List.getD_eq_getElem?_getD, hq]
    have hl : t[q].length = letters := by rw [← e]; exact hvd.row q (by omega)
    refine ⟨hl, fun x hx => ?_⟩
    obtain ⟨a, ha, rfl⟩ := List.getElem_of_mem hx
    have e2 : ent t q a = t[q][a] := by unfold Proofs.Ytjfdomfendbhfaa.ent; rw [e]; simp [List.getD_eq_getElem?_getD, ha]
    rw [← e2]
    exact ⟨hvd.lo q a (by omega) (by omega), hvd.hi q a (by omega) (by omega)⟩
  have hn1 := hvd.n1
  have hn5 := hvd.nbig
  have HG1 := Kh hg1; have HT1 := Kh hT1; have HH := Kh hH; have HRI := Kh hri; have HTN := Kh htn; have HFN := Kh hfn
  have HB1 := Kh (zB HBA.out hg1 (by simp; omega))
  have HO := Kh ho
  have hz1 := hg1.size
  clear hg1 hT1 hH hri hvd ho HD HTA HBA
  go_upto_region 2 with fail
  obtain ⟨Q, hQ⟩ : ∃ Q, Q = w1.heap.size := ⟨_, rfl⟩
  have hgQ := World.grownBy_alloc w1 (.cells #[.int .i64 letters, .int .i64 S, .slice sf n cf, .slice sn n cn] 42) none
  have hbQ := heap_alloc_new w1 (.cells #[.int .i64 letters, .int .i64 S, .slice sf n cf, .slice sn n cn] 42)
  obtain ⟨w2, hw2⟩ : ∃ w2, w2 = w1.alloc (.cells #[.int .i64 letters, .int .i64 S, .slice sf n cf, .slice sn n cn] 42) := ⟨_, rfl⟩
  rw [← hw2] at hbQ hgQ ⊢
  rw [← hQ] at hbQ ⊢
  have hH2 := (HH.out.grow hgQ).move (L' := letters) (S' := S) (o' := Q) (by rw [HFN.out, HTN.out]; exact hbQ)
  have HH2 := Kh hH2
  have HB2 := Kh (zB HB1.out hgQ (by simp))
  have HT2 := Kh (HT1.out.kept hgQ (by simp))
  have HG2 := Kh (zA (zF (zA (zL w (some tb)) HGA.out (by simp)) HG1.out) hgQ (by simp))
  obtain ⟨d0, d1, d2, d3⟩ := zG hbQ
  have hPQ : P < Q := by omega
  clear hgQ hbQ hw2 hH2 HH HB1 HT1 HG1 d0 d1 d2 htn hfn
  have HQ := Kh hQ
  clear hQ
  go_wp2
  go_loopg [8, 9, 10, 18] n (fun gh v8 v9 v10 i wr => ∃ (q : Nat) (t : List (List Int)), gh + q = n ∧ i = .int .i64 q ∧ t.length = n ∧ sW t n letters ∧ OrdTo t letters q 0 ∧ Half wA.heap.size wr Q letters S fs t hs sf cf sn cn ∧ xC B wr tb ∧ wr.heap[P]? = some (.cells #[.int .i64 0, .int .i64 0, .slice none 0 0, .slice none 0 0] 42 (0, 0)) ∧ w.grownBy wr (some tb))
  case atStart => exact ⟨0, t, by omega, rfl, HTN.out, HRI.out, fun q' a' _ h => by omega, HH2.out, HT2.out, HB2.out, HG2.out⟩
  case round =>
    obtain ⟨q, t, hg, rfl, htn, hri, hord, hH, hTr, hbr, hgr⟩ := hrel
    have HG := Kh hg; have HH := Kh hH; have HTR := Kh hTr; have HBR := Kh hbr; have HGR := Kh hgr; have HRI2 := Kh hri; have HORD := Kh hord; have HTN2 := Kh htn
    clear hg hTr hbr hgr HG2 HT2 HB2 HH2 HRI HTN hord
    by_cases hq : q < n
    · have hq' : (q : Int) < n := by omega
      have hrl : (t.getD q []).length = letters := (hri _ (oI (by omega))).1
      obtain ⟨kb, g, c, rfl, e1, e2, e3, e4, e5, e6, e7, e8⟩ := hH.at (q := q) (by omega) (by omega)
      obtain ⟨d0, d1, d2, d3⟩ := zG hH.box
      rw [hrl] at e3 e4 e5
      rw [htn] at d3 e1
      have E3 := Kh e3; have E2 := Kh e2; have E6 := Kh e6; have E7 := Kh e7
      have hcn : cn ≤ 9223372036854775807 := by unfold maxLen at e2; omega
      have hc : c ≤ 9223372036854775807 := by unfold maxLen at e6; omega
      clear d0 d1 d2 e8 e3 e2 e6 hrl hri htn hH
      go_wp2
      obtain ⟨wo, hwo⟩ : ∃ wo, wo = wr := ⟨_, rfl⟩
      rw [← hwo] at HH HTR HBR HGR ⊢
      clear d3 e4 hwo wr
      go_loopg [9, 10, 27] letters (fun gh v9 v10 i wx => ∃ (a : Nat) (t' : List (List Int)), gh + a = letters ∧ i = .int .i64 a ∧ t'.length = n ∧ sW t' n letters ∧ OrdTo t' letters q a ∧ Half wA.heap.size wx Q letters S fs t' hs sf cf (some ⟨kb, 0, none⟩) cn ∧ xC B wx tb ∧ wx.heap[P]? = some (.cells #[.int .i64 0, .int .i64 0, .slice none 0 0, .slice none 0 0] 42 (0, 0)) ∧ w.grownBy wx (some tb))
      case atStart => exact ⟨0, t, by omega, rfl, HTN2.out, HRI2.out, HORD.out, HH.out, HTR.out, HBR.out, HGR.out⟩
      case round =>
        obtain ⟨a, t', hg, rfl, htn, hri, hord, hH, hTr, hbr, hgr⟩ := hrel
        have HG3 := Kh hg; have HH3 := Kh hH; have HTR3 := Kh hTr; have HBR3 := Kh hbr; have HGR3 := Kh hgr; have HRI3 := Kh hri; have HORD3 := Kh hord; have HTN3 := Kh htn
        clear hg hTr hbr hgr HGR HTR HBR HH HRI2 HTN2 HORD hord
        by_cases ha : a < letters
        · have ha' : (a : Int) < letters := by omega
          have hrl : (t'.getD q []).length = letters := (hri _ (oI (by omega))).1
          obtain ⟨kb', g', c', e0, e1', e2, e3, e4, e5', e6, e7', e8⟩ := hH.at (q := q) (by omega) (by omega)
          have e0 : kb = kb' := by simpa using e0
          subst e0
          rw [hrl] at e3 e4 e5'
          rw [E3.out] at e3
          simp only [Option.some.injEq, Value.slice.injEq, Addr.mk.injEq, and_true, true_and] at e3
          obtain ⟨rfl, rfl⟩ := e3
          obtain ⟨d0, d1, d2, d3⟩ := zG hH.box
          rw [htn] at d3 e1'
          have hcell := e8.int a (by omega)
          have hfz := e8.frozen a
          have hen := hri.ent (q := q) (a := a) (by omega) ha
          have hx : (t'.getD q []).getD a 0 = ent t' q a := rfl
          rw [hx] at hcell
          obtain ⟨x, hxe⟩ : ∃ x, x = ent t' q a := ⟨_, rfl⟩
          rw [← hxe] at hcell hen
          obtain ⟨x, rfl⟩ : ∃ y : Nat, x = y := ⟨x.toNat, by omega⟩
          have E8 := Kh e8; have HRL := Kh hrl
          clear d0 d1 d2 e8 e2 e6 hrl hri htn hH hx hxe
          go_wp2
          all_goals
            go_roundg (letters - (a + 1))
            case measure => have := HG3.out; omega
            case rel =>
              obtain ⟨y, hy⟩ : ∃ y : Int, y = max (q : Int) (x : Int) := ⟨_, rfl⟩
              first | (have hy2 : (x : Int) = y := by omega
                       rw [hy2]) | (have hy2 : (q : Int) = y := by omega
                                    rw [hy2]) | (rw [← hy])
              have hg7 := zD wr ⟨g, a, none⟩ (.int .i64 y)
              have hgz : P < g := by omega
              have hgt : w.heap.size ≤ g := by have := HPE.out; omega
              have htbg : tb ≠ g := by omega
              refine ⟨a + 1, t'.set q ((t'.getD q []).set a y), by omega, by go_num, by rw [List.length_set]; exact HTN3.out, HRI3.out.set (by have := HTN3.out; omega) (by omega) (by omega), HORD3.out.step (by have := HTN3.out; omega) (by have := HRL.out; omega) (by omega), HH3.out.poke E3.out E8.out (by have := HRL.out; omega) _, HTR3.out.kept hg7 (fun k e => by have e : g = k := Option.some.inj e; omega), zB HBR3.out hg7 (fun e => by have e : g = P := Option.some.inj e; omega), zA HGR3.out hg7 (fun k e => by have e : g = k := Option.some.inj e; omega)⟩
        · have hal : a = letters := by have := HG3.out; omega
          clear hri htn hH
          go_wp2
          go_roundg (n - (q + 1))
          case measure => have := HG.out; omega
          case rel =>
            refine ⟨q + 1, t', by omega, by go_num, HTN3.out, HRI3.out, fun q' a' h1 h2 => HORD3.out q' a' h1 (by omega), HH3.out, HTR3.out, HBR3.out, HGR3.out⟩
    · have hqn : q = n := by have := HG.out; omega
      obtain ⟨d0, d1, d2, d3⟩ := zG hH.box
      obtain ⟨x0, x1, x2, x3⟩ := zG HBR.out
      have f1 := zE hH.box 1
      have y0 := zE HBR.out 0; have y1 := zE HBR.out 1; have y2 := zE HBR.out 2; have y3 := zE HBR.out 3
      clear hri htn hH
      go_wp2
      refine bodyPost_ret (v := .agg #[.int .i64 letters, .int .i64 0, .slice sf fs.length cf, .slice sn t.length cn]) (by simp [results, Try.results47, go_sem, x0, x1, x2, x3, hPQ, Nat.ne_of_lt hPQ, Nat.ne_of_gt hPQ]) rfl ?_
      have hH8 := HH.out.start 0
      have hg8 := zD wr ⟨Q, 1, none⟩ (.int .i64 0)
      have hb8 := zB HBR.out hg8 (fun e => by have e : Q = P := Option.some.inj e; omega)
      obtain ⟨hsR, hgR⟩ := vD hb8 (.int .i64 letters) (.int .i64 0) (.slice sf fs.length cf) (.slice sn t.length cn)
      refine ⟨_, ⟨letters, 0, fs, t⟩, n, rfl, ⟨Q, hs, sf, cf, sn, cn, rfl, by have := HPE.out; omega, (hH8.base (by have := HPE.out; omega)).far hgR hb8 (by omega)⟩, HRI2.out.vd h1 h6 hn1 (by omega) HFN.out HTN2.out (by omega) (by omega), hnm, ⟨rfl, fun k hk => ?_⟩, (HTR.out.kept hg8 (fun k e => by have e : Q = k := Option.some.inj e; omega)).kept hgR (fun k e => by have e : P = k := Option.some.inj e; omega), zA (zA HGR.out hg8 (fun k e => by have e : Q = k := Option.some.inj e; have := HPE.out; omega)) hgR (fun k e => by have e : P = k := Option.some.inj e; have := HPE.out; omega)⟩
      have hk : letters = k := Int.ofNat.inj hk
      subst hk; subst hqn
      exact HORD.out
theorem mk_int (n : Nat) (h : n ≤ 4096) : ∀ w : World, (Instr.makeSlice 34 (.int .i64 (n : Int)) (.int .i64 (n : Int))).run Try.prog w = .ok (.slice (some ⟨w.heap.size, 0, none⟩) n n) (w.alloc (.cells (madeCells #[.int .i64 0] n) 3)) :=
 fun w => run_make_row' 34 3 (.int .i64 0) 8 Try.underlying34 (by kernel_rfl) rfl .i64 .i64 n (by omega) (by omega) w
theorem made_int (n : Nat) : (madeCells #[.int .i64 0] n).toList = nats (List.replicate n 0) := by
 have := pN (z := .int .i64 0) rfl n
 rw [Nat.mul_one] at this
 rw [xU]; exact this
def PermD (m : DfaV) (n : Nat) : Prop := ∀ k : Nat, m.letters = k → ∀ a, a < k → ∀ q q', q < n → q' < n → ent m.next q a = ent m.next q' a → q = q'
theorem owns_keptF {w w' : World} {F : Nat → Prop} {base n : Nat} {v : Value} {xs : List Value} (h : w.ownsRow base 3 1 v n xs) (hg : GrownBut w w' F) (hF : ∀ k, F k → zY w 3 k) : w'.ownsRow base 3 1 v n xs := by
 obtain ⟨h1, h2⟩ := h
 refine ⟨h1, ?_⟩
 rcases h2 with h2 | ⟨g, cap, cur, e1, e2, e3, e4⟩
 ·exact .inl h2
 ·refine .inr ⟨g, cap, cur, e1, e2, hg.heap e3 (fun hf => ?_), e4⟩
  obtain ⟨c, e', m, hp, hne⟩ := hF g hf
  rw [e3] at hp
  simp at hp
  exact hne hp.2.1.symm
theorem Half.ofMany {base o q : Nat} {w5 w : World} {L S : Int} {fs : List Bool} {t : List (List Int)} {hs : List Value} {sf sn sa sa2 : Option Addr} {cf cn sc sc2 : Nat} {FF : Nat → Prop} {b : Bool} {row : List Int} {rv : Value} {k : Nat} {ls : List (Nat × Obj)} (h : Half base w5 o L S fs t hs sf cf sn cn) (hfl : fs.length = q) (htl : t.length = q) (hk : row.length = k)
  (hM : Many w5 FF w [⟨base, 4, .slice sa (q + 1) sc, q + 1, bls fs ++ [.bool b], 1⟩, ⟨base, 34, .slice sa2 (q + 1) sc2, q + 1, hs ++ [rv], 1⟩, ⟨base, 3, rv, k, ints row, 1⟩] ls []) (hF : ∀ k, FF k → zY w5 3 k)
  (hB : w.heap[o]? = some (.cells #[.int .i64 L, .int .i64 S, .slice sa (q + 1) sc, .slice sa2 (q + 1) sc2] 42 (0, 0))) : Half base w o L S (fs ++ [b]) (t ++ [row]) (hs ++ [rv]) sa sc sa2 sc2 := by
 have e1 : (fs ++ [b]).length = q + 1 := by simp [hfl]
 have e2 : (t ++ [row]).length = q + 1 := by simp [htl]
 have o0 := hM.own 0 _ rfl
 have o1 := hM.own 1 _ rfl
 have o2 := hM.own 2 _ rfl
 simp only at o0 o1 o2
 refine ⟨by rw [e1, e2]; exact hB, by rw [e1, show bls (fs ++ [b]) = bls fs ++ [.bool b] by simp [bls]]; exact o0, by rw [e2]; exact o1, ?_⟩
 refine OwnsT.snoc ⟨h.rows.len, fun i h1 h2 => owns_keptF (h.rows.own i h1 h2) hM.but hF, h.rows.dis⟩ (by rw [hk]; exact o2) (fun i hi j hj e => ?_)
 have hlt := (h.rows.lt hi hj).2
 rcases hM.mine 2 _ rfl j e with hf | hf
 ·obtain ⟨c, e', m, hp, hne⟩ := hF j hf
  exact zS (h.rows.own i hi (by rw [← h.rows.len]; exact hi)) hp (Ne.symm hne) hj
 ·omega
structure PermTo (t : List (List Int)) (n q a : Nat) (L : List Int) : Prop where
 done : ∀ a', a' < a → ∀ q1 q2, q1 < n → q2 < n → ent t q1 a' = ent t q2 a' → q1 = q2
 col : ∀ q1 q2, q1 < q → q2 < q → ent t q1 a = ent t q2 a → q1 = q2
 out : ∀ q1, q1 < q → ent t q1 a ∉ L
 nodup : L.Nodup
 rng : ∀ x ∈ L, 0 ≤ x ∧ x < n
 len : L.length + q = n
theorem PermTo.step {t : List (List Int)} {n q a k : Nat} {L : List Int} (h : PermTo t n q a L) (hq : q < t.length) (ha : a < (t.getD q []).length) (hk : k < L.length) : PermTo (t.set q ((t.getD q []).set a (L.getD k 0))) n (q + 1) a (L.take k ++ L.drop (k + 1)) := by
 have hx : L.getD k 0 = L[k] := by simp [List.getD_eq_getElem?_getD, hk]
 have hL : L = L.take k ++ L[k] :: L.drop (k + 1) := by rw [← List.drop_eq_getElem_cons hk, List.take_append_drop]
 have hnd := h.nodup
 rw [hL, List.nodup_append] at hnd
 obtain ⟨n1, n2, n3⟩ := hnd
 rw [List.nodup_cons] at n2
 have hmem : ∀ y, y ∈ L.take k ++ L.drop (k + 1) → y ∈ L := fun y hy => by
  rcases List.mem_append.1 hy with hy | hy
  ·exact List.mem_of_mem_take hy
  ·exact List.mem_of_mem_drop hy
 have hxn : L[k] ∉ L.take k ++ L.drop (k + 1) := fun hy => by
  rcases List.mem_append.1 hy with hy | hy
  ·exact n3 _ hy _ List.mem_cons_self rfl
  ·exact n2.1 hy
 have hxL : L[k] ∈ L := List.getElem_mem hk
 rw [hx]
 refine ⟨fun a' ha' q1 q2 h1 h2 => ?_, fun q1 q2 h1 h2 => ?_, fun q1 h1 => ?_, ?_, fun y hy => h.rng y (hmem y hy), ?_⟩
 ·rw [oF hq ha, oF hq ha, if_neg (by omega), if_neg (by omega)]
  exact h.done a' ha' q1 q2 h1 h2
 ·rw [oF hq ha, oF hq ha]
  simp only [and_true]
  by_cases e1 : q1 = q <;> by_cases e2 : q2 = q
  ·intro _; omega
  ·rw [if_pos e1, if_neg e2]
   intro e; exact absurd (e ▸ hxL) (h.out q2 (by omega))
  ·rw [if_neg e1, if_pos e2]
   intro e; exact absurd (e ▸ hxL) (h.out q1 (by omega))
  ·rw [if_neg e1, if_neg e2]
   exact h.col q1 q2 (by omega) (by omega)
 ·rw [oF hq ha]
  simp only [and_true]
  by_cases e1 : q1 = q
  ·rw [if_pos e1]; exact hxn
  ·rw [if_neg e1]; exact fun hy => h.out q1 (by omega) (hmem _ hy)
 ·rw [List.nodup_append]
  exact ⟨n1, n2.2, fun x h1 y h2 => n3 x h1 y (List.mem_cons_of_mem _ h2)⟩
 ·have := h.len
  simp only [List.length_append, List.length_take, List.length_drop]
  omega
theorem PermTo.begin {t : List (List Int)} {n a : Nat} (h : ∀ a', a' < a → ∀ q1 q2, q1 < n → q2 < n → ent t q1 a' = ent t q2 a' → q1 = q2) : PermTo t n 0 a ((List.range n).map fun (x : Nat) => (x : Int)) where
 done := h
 col := fun q1 q2 h1 => by omega
 out := fun q1 h1 => by omega
 nodup := by
  refine List.Pairwise.map _ (fun x y hxy => ?_) (List.nodup_range (n := n))
  intro e; exact hxy (Int.ofNat.inj e)
 rng := fun x hx => by
  obtain ⟨y, hy, rfl⟩ := List.mem_map.1 hx
  have := List.mem_range.1 hy
  omega
 len := by simp
theorem row_front {w : World} {lb cl k : Nat} {e : TypeId} {L : List Int} (hA : Arr w lb e (ints L)) (hk : k ≤ L.length) (hc : L.length ≤ cl) (hm : cl ≤ maxLen) : Row w.heap.size w (.slice (some ⟨lb, 0, none⟩) k cl) (ints (L.take k)) := by
 have hl : (ints (L.take k)).length = k := by rw [yW, List.length_take]; omega
 refine .inr ⟨lb, 0, cl, by rw [hl], hA.lt, by rw [hl]; omega, hm, ?_⟩
 have := hA.row.take k
 rwa [show ints (L.take k) = (ints L).take k by simp [ints, List.map_take]]
theorem row_back {w : World} {lb cl k : Nat} {e : TypeId} {L : List Int} (hA : Arr w lb e (ints L)) (hk : k < L.length) (hc : L.length ≤ cl) (hm : cl ≤ maxLen) : Row w.heap.size w (.slice (if cl = k + 1 then some ⟨lb, 0, none⟩ else some ⟨lb, k + 1, none⟩) (L.length - (k + 1)) (cl - (k + 1))) (ints (L.drop (k + 1))) := by
 have hl : (ints (L.drop (k + 1))).length = L.length - (k + 1) := by rw [yW, List.length_drop]
 by_cases h : cl = k + 1
 ·rw [if_pos h]
  refine .inr ⟨lb, 0, cl - (k + 1), by rw [hl], hA.lt, by rw [hl]; omega, by omega, hA.lt, fun i hi => by omega⟩
 ·rw [if_neg h]
  refine .inr ⟨lb, k + 1, cl - (k + 1), by rw [hl], hA.lt, by rw [hl]; omega, by omega, ?_⟩
  have := hA.row.drop (k + 1)
  rw [Nat.zero_add] at this
  rwa [show ints (L.drop (k + 1)) = (ints L).drop (k + 1) by simp [ints, List.map_drop]]
theorem Half.keptAbove {base o : Nat} {w0 W W' : World} {L S L0 S0 : Int} {fs : List Bool} {t t0 : List (List Int)} {hs : List Value} {sf sn : Option Addr} {cf cn : Nat} {row : Option Nat} (h : Half base W o L S fs t hs sf cf sn cn) (h0 : Half base w0 o L0 S0 fs t0 hs sf cf sn cn) (ht : t0.length = t.length) (hg : W.grownBy W' row) (hr : ∀ k, row = some k → w0.heap.size ≤ k) : Half base W' o L S fs t hs sf cf sn cn := by
 have key : ∀ (v : Value), (∀ k, v.ownBlock = some k → k < w0.heap.size) → v.ownBlock = none ∨ v.ownBlock ≠ row := fun v hv => by
  rcases e : v.ownBlock with _ | k
  ·exact .inl rfl
  ·refine .inr fun e2 => ?_
   have := hr k e2.symm
   have := hv k e
   omega
 refine ⟨zB h.box hg (fun e => by have := hr _ e; have := zN h0.box; omega), h.ownF.kept hg (key _ fun k e => (h0.ownF.lt k e).2), h.ownN.kept hg (key _ fun k e => (h0.ownN.lt k (by rw [ht]; exact e)).2), ⟨h.rows.len, fun i h1 h2 => (h.rows.own i h1 h2).kept hg (key _ fun k e => (h0.rows.lt h1 e).2), h.rows.dis⟩⟩
theorem tape_not {w0 W : World} {F : Nat → Prop} {rs : List RowS} {ls : List (Nat × Obj)} {ps : List (Nat × TypeId × List Value)} (h : Many w0 F W rs ls ps) {B tb : Nat} (hT : xC B W tb) (hty : ∀ s ∈ rs, s.e ≠ 82) : ∀ (j : Nat) (s : RowS), rs[j]? = some s → s.v.ownBlock ≠ some tb := by
 obtain ⟨sl, zs, n, hr, _⟩ := hT
 exact h.not_type hr hty
inductive perm7I (B tb P letters q : Nat) (s : Int) (fs : List Bool) (hs : List Value) (sf : Option Addr) (cf : Nat) (sn : Option Addr) (cn : Nat) (w5 : World) (FF : Nat → Prop) (a0 : Act) (l : Array Bool) (a : Act) (w : World) : Prop
 | mk (x33 : Value) (x34 : Value) (x35 : Value) (x36 : Value) (x40 : Value) (x41 : Value) (x42 : Value) (x43 : Value) (x44 : Value) (b : Int) (vF : Value) (nF : Nat) (xF : List Value) (vN : Value) (nN : Nat) (xN : List Value) (vR : Value) (nR : Nat) (xR : List Value) (ls : List (Nat × Obj)) (c2 : Value) (c3 : Value) (ha : a = xH a0 [(33, x33), (34, x34), (35, x35), (36, x36), (40, x40), (41, x41), (42, x42), (43, x43), (44, x44)]) (HR : ∀ j ∈ [0, 1, 2, 7, 8, 9], l.getD j true = true) (H3 : Hid (l.getD 3 true = true → x33 = .int .i64 b)) (H4 : Hid (l.getD 4 true = true → l.getD 3 true = true ∧ x34 = Value.bool (decide (b = 1)))) (H5 : Hid (l.getD 5 true = true → l.getD 3 true = true ∧ ∃ g, x35 = .slice (some ⟨g, 0, none⟩) 1 1 ∧ (g, Obj.cells #[Value.bool (decide (b = 1))] 4 (0, 0)) ∈ ls)) (H6n : Hid (l.getD 6 true = false → vF = .slice sf q cf ∧ q = nF ∧ xF = bls fs)) (H6 : Hid (l.getD 6 true = true → l.getD 3 true = true ∧ ∃ sa sc, vF = .slice sa (q + 1) sc ∧ x36 = .slice sa (q + 1) sc ∧ nF = q + 1 ∧ xF = bls fs ++ [Value.bool (decide (b = 1))])) (H10n : Hid (l.getD 10 true = false → vR = .slice none 0 0 ∧ nR = 0 ∧ xR = [])) (H10 : Hid (l.getD 10 true = true → ∃ g, vR = .slice (some ⟨g, 0, none⟩) letters letters ∧ x40 = .slice (some ⟨g, 0, none⟩) letters letters ∧ letters = nR ∧ xR = List.replicate letters (.int .i64 0))) (H11 : Hid (l.getD 11 true = true → l.getD 10 true = true ∧ ∃ g, x41 = .slice (some ⟨g, 0, none⟩) 1 1 ∧ (g, Obj.cells #[vR] 34 (0, 0)) ∈ ls)) (H12n : Hid (l.getD 12 true = false → vN = .slice sn q cn ∧ q = nN ∧ hs = xN)) (H12 : Hid (l.getD 12 true = true → l.getD 6 true = true ∧ l.getD 10 true = true ∧ ∃ sa sc, vN = .slice sa (q + 1) sc ∧ x42 = .slice sa (q + 1) sc ∧ nN = q + 1 ∧ xN = hs ++ [vR])) (H13 : Hid (l.getD 13 true = true → x43 = .pointer (some ⟨P + 1, 2, none⟩))) (H15 : Hid (l.getD 15 true = true → x44 = .pointer (some ⟨P + 1, 3, none⟩))) (B2n : Hid (l.getD 14 true = false → c2 = .slice sf q cf)) (B2 : Hid (l.getD 14 true = true → l.getD 6 true = true ∧ l.getD 12 true = true ∧ c2 = vF)) (B3n : Hid (l.getD 16 true = false → c3 = .slice sn q cn)) (B3 : Hid (l.getD 16 true = true → l.getD 12 true = true ∧ l.getD 14 true = true ∧ c3 = vN)) (HB : (w.heap[P + 1]? = some (.cells #[.int .i64 letters, .int .i64 s, c2, c3] 42 (0, 0)))) (HM : (Many w5 FF w [⟨P + 1, 4, vF, nF, xF, 1⟩, ⟨P + 1, 34, vN, nN, xN, 1⟩, ⟨P + 1, 3, vR, nR, xR, 1⟩] ls [])) (HT : (xC B w tb))
theorem perm7_G {B tb P letters q : Nat} {s : Int} {fs : List Bool} {hs : List Value} {sf : Option Addr} {cf : Nat} {sn : Option Addr} {cn : Nat} {w5 : World} {FF : Nat → Prop} {a0 : Act} {l : Array Bool} {a : Act} {w : World} (h : perm7I B tb P letters q s fs hs sf cf sn cn w5 FF a0 l a w) : uS 14 (fun _ => True) (fun W => W.cell? ⟨P + 1, 2, none⟩ = some (.slice sf q cf) ∧ W.cell? ⟨P + 1, 3, none⟩ = some (.slice sn q cn)) l w := by
 obtain ⟨x33, x34, x35, x36, x40, x41, x42, x43, x44, b, vF, nF, xF, vN, nN, xN, vR, nR, xR, ls, c2, c3, ha, HR, H3, H4, H5, H6n, H6, H10n, H10, H11, H12n, H12, H13, H15, B2n, B2, B3n, B3, HB, HM, HT⟩ := h
 obtain ⟨k0, k1, k2, k3⟩ := zG HB
 refine ⟨trivial, fun h14 => ?_⟩
 have h16 : l.getD 16 true = false := by
  rcases h16 : l.getD 16 true with _ | _
  ·rfl
  ·have := (B3.out h16).2.1
   rw [h14] at this; cases this
 rw [B2n.out h14] at k2; rw [B3n.out h16] at k3
 exact ⟨k2, k3⟩
theorem mR {B tb P letters q : Nat} {s : Int} {fs : List Bool} {hs : List Value} {sf : Option Addr} {cf : Nat} {sn : Option Addr} {cn : Nat} {w5 : World} {FF : Nat → Prop} {a0 : Act} {l : Array Bool} {a : Act} {w : World} (h : perm7I B tb P letters q s fs hs sf cf sn cn w5 FF a0 l a w) : ∀ j ∈ [0, 1, 2, 7, 8, 9], l.getD j true = true := by
 obtain ⟨x33, x34, x35, x36, x40, x41, x42, x43, x44, b, vF, nF, xF, vN, nN, xN, vR, nR, xR, ls, c2, c3, ha, HR, H3, H4, H5, H6n, H6, H10n, H10, H11, H12n, H12, H13, H15, B2n, B2, B3n, B3, HB, HM, HT⟩ := h
 exact HR
set_option maxRecDepth 100000 in
set_option maxHeartbeats 8000000 in
theorem perm7_steps {B tb P letters q : Nat} {s : Int} {fs : List Bool} {hs : List Value} {sf : Option Addr} {cf : Nat} {sn : Option Addr} {cn : Nat} {w5 : World} {FF : Nat → Prop} {v0 v1 v2 v3 v4 v5 v6 v8 v9 v10 v11 v12 v13 v14 v15 v16 v17 v18 v19 v20 v21 v22 v23 v24 v25 v26 v27 v28 v29 v33 v34 v35 v36 v40 v41 v42 v43 v44 v45 v46 v47 v48 v49 v50 v51 v52 v53 v54 v55 v56 v57 v58 v59 v60 v61 v62 v63 v64 v65 v66 v67 v68 v69 v70 v71 v72 v73 v74 v75 v76 v77 v78 v79 v80 v81 v82 v83 v84 v85 v86 v87 v88 v89 : Value} {dd : _} {a0 : Act} (ha0 : a0 = ⟨#[v0, v1, v2, v3, v4, v5, v6, .pointer (some ⟨P + 1, 0, none⟩), v8, v9, v10, v11, v12, v13, v14, v15, v16, v17, v18, v19, v20, v21, v22, v23, v24, v25, v26, v27, v28, v29, .pointer (some ⟨P + 1, 2, none⟩), .slice sf q cf, .pointer (some ⟨tb, 0, none⟩), v33, v34, v35, v36, .pointer (some ⟨P + 1, 3, none⟩), .slice sn q cn, .int .i64 letters, v40, v41, v42, v43, v44, v45, v46, v47, v48, v49, v50, v51, v52, v53, v54, v55, v56, v57, v58, v59, v60, v61, v62, v63, v64, v65, v66, v67, v68, v69, v70, v71, v72, v73, v74, v75, v76, v77, v78, v79, v80, v81, v82, v83, v84, v85, v86, v87, v88, v89], dd⟩) (hBt : B ≤ tb) (htb : tb < P) (h6 : letters ≤ 6) (hq5 : q ≤ 500) (htW : tb < w5.heap.size) (hQW : P + 1 < w5.heap.size) (hbase : P + 1 ≤ w5.heap.size) (HFF : FF = fun k => FB sf sn k ∨ k = tb ∨ k = P + 1) (hmk : ∀ w : World, (Instr.makeSlice 34 (.int .i64 (letters : Int)) (.int .i64 (letters : Int))).run Try.prog w = .ok (.slice (some ⟨w.heap.size, 0, none⟩) letters letters) (w.alloc (.cells (madeCells #[.int .i64 0] letters) 3))) (hmkz : Hid (madeCells #[.int .i64 0] letters = (List.replicate letters (Value.int .i64 0)).toArray)) (ops7 : Array Oper) (Q7 : Exit → Act → World → Prop) : AllOps (StepOk Try.prog .any ops7 Q7 (perm7I B tb P letters q s fs hs sf cf sn cn w5 FF a0)) 0 (regionOps Try.f48 7).toList := by
 refine ⟨?s0, ?s1, ?s2, ?s3, ?s4, ?s5, ?s6, ?s7, ?s8, ?s9, ?s10, ?s11, ?s12, ?s13, ?s14, ?s15, ?s16, trivial⟩
 case s0 =>
  exact fun l a w h hun => absurd (mR h 0 (by simp)) (by rw [hun]; simp)
 case s1 =>
  exact fun l a w h hun => absurd (mR h 1 (by simp)) (by rw [hun]; simp)
 case s2 =>
  exact fun l a w h hun => absurd (mR h 2 (by simp)) (by rw [hun]; simp)
 case s3 =>
  intro l a w h hun hdep K hK
  obtain ⟨x33, x34, x35, x36, x40, x41, x42, x43, x44, b, vF, nF, xF, vN, nN, xN, vR, nR, xR, ls, c2, c3, ha, HR, H3, H4, H5, H6n, H6, H10n, H10, H11, H12n, H12, H13, H15, B2n, B2, B3n, B3, HB, HM, HT⟩ := h
  subst ha
  rw [ha0]
  simp only [xH, List.foldl_cons, List.foldl_nil, Act.put, sPa, sPb, sPc]
  go_simp
  go_at_call 15
  refine (vB B tb _ _ (by omega) HT).mono ?_
  rintro e w6 ⟨b', rfl, hb0, hb1, hT6, hg6⟩
  refine hK.out _ _ ?_
  refine ⟨(.int .i64 b'), x34, x35, x36, x40, x41, x42, x43, x44, b', vF, nF, xF, vN, nN, xN, vR, nR, xR, ls, c2, c3, ?fa3, fun j hj => zH (HR j hj), Kh (fun _ => rfl), Kh (fun h => absurd (H4.out (zC (by decide) h)).1 (by rw [hun]; simp)), Kh (fun h => absurd (H5.out (zC (by decide) h)).1 (by rw [hun]; simp)), Kh (fun h => H6n.out (zM h)), Kh (fun h => absurd (H6.out (zC (by decide) h)).1 (by rw [hun]; simp)), Kh (fun h => H10n.out (zM h)), Kh (fun h => H10.out (zC (by decide) h)), Kh (fun h => ⟨zH (H11.out (zC (by decide) h)).1, (H11.out (zC (by decide) h)).2⟩), Kh (fun h => H12n.out (zM h)), Kh (fun h => ⟨zH (H12.out (zC (by decide) h)).1, zH (H12.out (zC (by decide) h)).2.1, (H12.out (zC (by decide) h)).2.2⟩), Kh (fun h => H13.out (zC (by decide) h)), Kh (fun h => H15.out (zC (by decide) h)), Kh (fun h => B2n.out (zM h)), Kh (fun h => ⟨zH (B2.out (zC (by decide) h)).1, zH (B2.out (zC (by decide) h)).2.1, (B2.out (zC (by decide) h)).2.2⟩), Kh (fun h => B3n.out (zM h)), Kh (fun h => ⟨zH (B3.out (zC (by decide) h)).1, zH (B3.out (zC (by decide) h)).2.1, (B3.out (zC (by decide) h)).2.2⟩), zB HB hg6 (by simp; omega), HM.far hg6 (by rw [HFF]; exact Or.inr (Or.inl rfl)) htW (tape_not HM HT (by simp)), hT6⟩
  case fa3 => rw [ha0]; simp only [xH, List.foldl_cons, List.foldl_nil, Act.put, sPa, sPb, sPc]
 case s4 =>
  intro l a w h hun hdep K hK
  obtain ⟨x33, x34, x35, x36, x40, x41, x42, x43, x44, b, vF, nF, xF, vN, nN, xN, vR, nR, xR, ls, c2, c3, ha, HR, H3, H4, H5, H6n, H6, H10n, H10, H11, H12n, H12, H13, H15, B2n, B2, B3n, B3, HB, HM, HT⟩ := h
  have DH3 := H3.out (yV (hdep ⟨3, .data⟩ (by simp) rfl))
  subst DH3
  subst ha
  rw [ha0]
  simp only [xH, List.foldl_cons, List.foldl_nil, Act.put, sPa, sPb, sPc]
  go_simp
  refine hK.out _ _ ?_
  refine ⟨(.int .i64 b), (.bool (b == 1)), x35, x36, x40, x41, x42, x43, x44, b, vF, nF, xF, vN, nN, xN, vR, nR, xR, ls, c2, c3, ?fa4, fun j hj => zH (HR j hj), Kh (fun _ => rfl), Kh (fun _ => ⟨zH (yV (hdep ⟨3, .data⟩ (by simp) rfl)), rfl⟩), Kh (fun h => ⟨zH (H5.out (zC (by decide) h)).1, (H5.out (zC (by decide) h)).2⟩), Kh (fun h => H6n.out (zM h)), Kh (fun h => ⟨zH (H6.out (zC (by decide) h)).1, (H6.out (zC (by decide) h)).2⟩), Kh (fun h => H10n.out (zM h)), Kh (fun h => H10.out (zC (by decide) h)), Kh (fun h => ⟨zH (H11.out (zC (by decide) h)).1, (H11.out (zC (by decide) h)).2⟩), Kh (fun h => H12n.out (zM h)), Kh (fun h => ⟨zH (H12.out (zC (by decide) h)).1, zH (H12.out (zC (by decide) h)).2.1, (H12.out (zC (by decide) h)).2.2⟩), Kh (fun h => H13.out (zC (by decide) h)), Kh (fun h => H15.out (zC (by decide) h)), Kh (fun h => B2n.out (zM h)), Kh (fun h => ⟨zH (B2.out (zC (by decide) h)).1, zH (B2.out (zC (by decide) h)).2.1, (B2.out (zC (by decide) h)).2.2⟩), Kh (fun h => B3n.out (zM h)), Kh (fun h => ⟨zH (B3.out (zC (by decide) h)).1, zH (B3.out (zC (by decide) h)).2.1, (B3.out (zC (by decide) h)).2.2⟩), HB, HM, HT⟩
  case fa4 => rw [ha0]; simp only [xH, List.foldl_cons, List.foldl_nil, Act.put, sPa, sPb, sPc]
 case s5 =>
  intro l a w h hun hdep K hK
  obtain ⟨x33, x34, x35, x36, x40, x41, x42, x43, x44, b, vF, nF, xF, vN, nN, xN, vR, nR, xR, ls, c2, c3, ha, HR, H3, H4, H5, H6n, H6, H10n, H10, H11, H12n, H12, H13, H15, B2n, B2, B3n, B3, HB, HM, HT⟩ := h
  have DH4 := H4.out (yV (hdep ⟨4, .data⟩ (by simp) rfl))
  obtain ⟨hd3, rfl⟩ := DH4
  subst ha
  rw [ha0]
  simp only [xH, List.foldl_cons, List.foldl_nil, Act.put, sPa, sPb, sPc]
  go_simp
  refine hK.out _ _ ?_
  refine ⟨x33, (Value.bool (decide (b = 1))), (.slice (some ⟨w.heap.size, 0, none⟩) 1 1), x36, x40, x41, x42, x43, x44, b, vF, nF, xF, vN, nN, xN, vR, nR, xR, ((w.heap.size, Obj.cells #[Value.bool (decide (b = 1))] 4 (0, 0)) :: ls), c2, c3, ?fa5, fun j hj => zH (HR j hj), Kh (fun h => H3.out (zC (by decide) h)), Kh (fun _ => ⟨zH hd3, rfl⟩), Kh (fun _ => ⟨zH hd3, w.heap.size, rfl, List.Mem.head _⟩), Kh (fun h => H6n.out (zM h)), Kh (fun h => ⟨zH (H6.out (zC (by decide) h)).1, (H6.out (zC (by decide) h)).2⟩), Kh (fun h => H10n.out (zM h)), Kh (fun h => H10.out (zC (by decide) h)), Kh (fun h => ⟨zH (H11.out (zC (by decide) h)).1, let ⟨g, h1, h2⟩ := (H11.out (zC (by decide) h)).2; ⟨g, h1, List.Mem.tail _ h2⟩⟩), Kh (fun h => H12n.out (zM h)), Kh (fun h => ⟨zH (H12.out (zC (by decide) h)).1, zH (H12.out (zC (by decide) h)).2.1, (H12.out (zC (by decide) h)).2.2⟩), Kh (fun h => H13.out (zC (by decide) h)), Kh (fun h => H15.out (zC (by decide) h)), Kh (fun h => B2n.out (zM h)), Kh (fun h => ⟨zH (B2.out (zC (by decide) h)).1, zH (B2.out (zC (by decide) h)).2.1, (B2.out (zC (by decide) h)).2.2⟩), Kh (fun h => B3n.out (zM h)), Kh (fun h => ⟨zH (B3.out (zC (by decide) h)).1, zH (B3.out (zC (by decide) h)).2.1, (B3.out (zC (by decide) h)).2.2⟩), zB HB (World.grownBy_alloc w (.cells #[Value.bool (decide (b = 1))] 4) none) (by simp), HM.alloc (.cells #[Value.bool (decide (b = 1))] 4), HT.kept (World.grownBy_alloc w (.cells #[Value.bool (decide (b = 1))] 4) none) (by simp)⟩
  case fa5 => rw [ha0]; simp only [xH, List.foldl_cons, List.foldl_nil, Act.put, sPa, sPb, sPc]
 case s6 =>
  intro l a w h hun hdep K hK
  obtain ⟨x33, x34, x35, x36, x40, x41, x42, x43, x44, b, vF, nF, xF, vN, nN, xN, vR, nR, xR, ls, c2, c3, ha, HR, H3, H4, H5, H6n, H6, H10n, H10, H11, H12n, H12, H13, H15, B2n, B2, B3n, B3, HB, HM, HT⟩ := h
  have DH5 := H5.out (yV (hdep ⟨5, .data⟩ (by simp) rfl))
  obtain ⟨hd3, g5, rfl, hg5⟩ := DH5
  obtain ⟨rfl, rfl, rfl⟩ := H6n.out hun
  subst ha
  rw [ha0]
  simp only [xH, List.foldl_cons, List.foldl_nil, Act.put, sPa, sPb, sPc]
  refine step_many' (by simp [Region.wanted]) (.tmp 31) (.tmp 35) 39 rfl qC 0 g5 1 rfl HM rfl rfl rfl rfl ?g16 ?g26 ?g36 hg5 rfl ?_
  case g16 => show q + 1 ≤ maxLen; unfold maxLen; omega
  case g26 => show (q + 1) * 1 ≤ 140737488355328; omega
  case g36 => exact hbase
  intro sa sc w6 hM6 hg6
  refine hK.out _ _ ?_
  refine ⟨x33, x34, (.slice (some ⟨g5, 0, none⟩) 1 1), (.slice sa (q + 1) sc), x40, x41, x42, x43, x44, b, (.slice sa (q + 1) sc), (q + 1), (bls fs ++ [Value.bool (decide (b = 1))]), vN, nN, xN, vR, nR, xR, ls, c2, c3, ?fa6, fun j hj => zH (HR j hj), Kh (fun h => H3.out (zC (by decide) h)), Kh (fun h => ⟨zH (H4.out (zC (by decide) h)).1, (H4.out (zC (by decide) h)).2⟩), Kh (fun _ => ⟨zH hd3, g5, rfl, hg5⟩), Kh (fun h => uG h), Kh (fun _ => ⟨zH hd3, sa, sc, rfl, rfl, rfl, rfl⟩), Kh (fun h => H10n.out (zM h)), Kh (fun h => H10.out (zC (by decide) h)), Kh (fun h => ⟨zH (H11.out (zC (by decide) h)).1, (H11.out (zC (by decide) h)).2⟩), Kh (fun h => H12n.out (zM h)), Kh (fun h => absurd (H12.out (zC (by decide) h)).1 (by rw [hun]; simp)), Kh (fun h => H13.out (zC (by decide) h)), Kh (fun h => H15.out (zC (by decide) h)), Kh (fun h => B2n.out (zM h)), Kh (fun h => absurd (B2.out (zC (by decide) h)).1 (by rw [hun]; simp)), Kh (fun h => B3n.out (zM h)), Kh (fun h => ⟨zH (B3.out (zC (by decide) h)).1, zH (B3.out (zC (by decide) h)).2.1, (B3.out (zC (by decide) h)).2.2⟩), zB HB hg6 (fun e => HM.not_type HB (by simp) 0 _ rfl e), hM6, HT.kept hg6 (fun k e => by have := ((HM.own 0 _ rfl).lt k e).1; simp only at this; omega)⟩
  case fa6 => rw [ha0]; simp only [xH, List.foldl_cons, List.foldl_nil, Act.put, sPa, sPb, sPc]
 case s7 =>
  exact fun l a w h hun => absurd (mR h 7 (by simp)) (by rw [hun]; simp)
 case s8 =>
  exact fun l a w h hun => absurd (mR h 8 (by simp)) (by rw [hun]; simp)
 case s9 =>
  exact fun l a w h hun => absurd (mR h 9 (by simp)) (by rw [hun]; simp)
 case s10 =>
  intro l a w h hun hdep K hK
  obtain ⟨x33, x34, x35, x36, x40, x41, x42, x43, x44, b, vF, nF, xF, vN, nN, xN, vR, nR, xR, ls, c2, c3, ha, HR, H3, H4, H5, H6n, H6, H10n, H10, H11, H12n, H12, H13, H15, B2n, B2, B3n, B3, HB, HM, HT⟩ := h
  obtain ⟨rfl, rfl, rfl⟩ := H10n.out hun
  subst ha
  rw [ha0]
  simp only [xH, List.foldl_cons, List.foldl_nil, Act.put, sPa, sPb, sPc]
  go_simp
  rw [hmkz.out]
  have hM6 := HM.make (j := 2) rfl hbase (cs := List.replicate letters (.int .i64 0)) (n := letters) (by simp) (by unfold maxLen; omega)
  refine hK.out _ _ ?_
  refine ⟨x33, x34, x35, x36, (.slice (some ⟨w.heap.size, 0, none⟩) letters letters), x41, x42, x43, x44, b, vF, nF, xF, vN, nN, xN, (.slice (some ⟨w.heap.size, 0, none⟩) letters letters), letters, (List.replicate letters (.int .i64 0)), ls, c2, c3, ?fa10, fun j hj => zH (HR j hj), Kh (fun h => H3.out (zC (by decide) h)), Kh (fun h => ⟨zH (H4.out (zC (by decide) h)).1, (H4.out (zC (by decide) h)).2⟩), Kh (fun h => ⟨zH (H5.out (zC (by decide) h)).1, (H5.out (zC (by decide) h)).2⟩), Kh (fun h => H6n.out (zM h)), Kh (fun h => ⟨zH (H6.out (zC (by decide) h)).1, (H6.out (zC (by decide) h)).2⟩), Kh (fun h => uG h), Kh (fun _ => ⟨w.heap.size, rfl, rfl, rfl, rfl⟩), Kh (fun h => absurd (H11.out (zC (by decide) h)).1 (by rw [hun]; simp)), Kh (fun h => H12n.out (zM h)), Kh (fun h => absurd (H12.out (zC (by decide) h)).2.1 (by rw [hun]; simp)), Kh (fun h => H13.out (zC (by decide) h)), Kh (fun h => H15.out (zC (by decide) h)), Kh (fun h => B2n.out (zM h)), Kh (fun h => ⟨zH (B2.out (zC (by decide) h)).1, zH (B2.out (zC (by decide) h)).2.1, (B2.out (zC (by decide) h)).2.2⟩), Kh (fun h => B3n.out (zM h)), Kh (fun h => ⟨zH (B3.out (zC (by decide) h)).1, zH (B3.out (zC (by decide) h)).2.1, (B3.out (zC (by decide) h)).2.2⟩), zB HB (World.grownBy_alloc w (.cells (List.replicate letters (Value.int .i64 0)).toArray 3) none) (by simp), hM6, HT.kept (World.grownBy_alloc w (.cells (List.replicate letters (Value.int .i64 0)).toArray 3) none) (by simp)⟩
  case fa10 => rw [ha0]; simp only [xH, List.foldl_cons, List.foldl_nil, Act.put, sPa, sPb, sPc]
 case s11 =>
  intro l a w h hun hdep K hK
  obtain ⟨x33, x34, x35, x36, x40, x41, x42, x43, x44, b, vF, nF, xF, vN, nN, xN, vR, nR, xR, ls, c2, c3, ha, HR, H3, H4, H5, H6n, H6, H10n, H10, H11, H12n, H12, H13, H15, B2n, B2, B3n, B3, HB, HM, HT⟩ := h
  have DH10 := H10.out (yV (hdep ⟨10, .data⟩ (by simp) rfl))
  obtain ⟨g10, rfl, rfl, rfl, rfl⟩ := DH10
  subst ha
  rw [ha0]
  simp only [xH, List.foldl_cons, List.foldl_nil, Act.put, sPa, sPb, sPc]
  go_simp
  refine hK.out _ _ ?_
  refine ⟨x33, x34, x35, x36, (Value.slice (some ⟨g10, 0, none⟩) letters letters), (.slice (some ⟨w.heap.size, 0, none⟩) 1 1), x42, x43, x44, b, vF, nF, xF, vN, nN, xN, (Value.slice (some ⟨g10, 0, none⟩) letters letters), letters, (List.replicate letters (.int .i64 0)), ((w.heap.size, Obj.cells #[Value.slice (some ⟨g10, 0, none⟩) letters letters] 34 (0, 0)) :: ls), c2, c3, ?fa11, fun j hj => zH (HR j hj), Kh (fun h => H3.out (zC (by decide) h)), Kh (fun h => ⟨zH (H4.out (zC (by decide) h)).1, (H4.out (zC (by decide) h)).2⟩), Kh (fun h => ⟨zH (H5.out (zC (by decide) h)).1, let ⟨g, h1, h2⟩ := (H5.out (zC (by decide) h)).2; ⟨g, h1, List.Mem.tail _ h2⟩⟩), Kh (fun h => H6n.out (zM h)), Kh (fun h => ⟨zH (H6.out (zC (by decide) h)).1, (H6.out (zC (by decide) h)).2⟩), Kh (fun h => H10n.out (zM h)), Kh (fun _ => ⟨g10, rfl, rfl, rfl, rfl⟩), Kh (fun _ => ⟨zH (yV (hdep ⟨10, .data⟩ (by simp) rfl)), w.heap.size, rfl, List.Mem.head _⟩), Kh (fun h => H12n.out (zM h)), Kh (fun h => ⟨zH (H12.out (zC (by decide) h)).1, zH (H12.out (zC (by decide) h)).2.1, (H12.out (zC (by decide) h)).2.2⟩), Kh (fun h => H13.out (zC (by decide) h)), Kh (fun h => H15.out (zC (by decide) h)), Kh (fun h => B2n.out (zM h)), Kh (fun h => ⟨zH (B2.out (zC (by decide) h)).1, zH (B2.out (zC (by decide) h)).2.1, (B2.out (zC (by decide) h)).2.2⟩), Kh (fun h => B3n.out (zM h)), Kh (fun h => ⟨zH (B3.out (zC (by decide) h)).1, zH (B3.out (zC (by decide) h)).2.1, (B3.out (zC (by decide) h)).2.2⟩), zB HB (World.grownBy_alloc w (.cells #[Value.slice (some ⟨g10, 0, none⟩) letters letters] 34) none) (by simp), HM.alloc (.cells #[Value.slice (some ⟨g10, 0, none⟩) letters letters] 34), HT.kept (World.grownBy_alloc w (.cells #[Value.slice (some ⟨g10, 0, none⟩) letters letters] 34) none) (by simp)⟩
  case fa11 => rw [ha0]; simp only [xH, List.foldl_cons, List.foldl_nil, Act.put, sPa, sPb, sPc]
 case s12 =>
  intro l a w h hun hdep K hK
  obtain ⟨x33, x34, x35, x36, x40, x41, x42, x43, x44, b, vF, nF, xF, vN, nN, xN, vR, nR, xR, ls, c2, c3, ha, HR, H3, H4, H5, H6n, H6, H10n, H10, H11, H12n, H12, H13, H15, B2n, B2, B3n, B3, HB, HM, HT⟩ := h
  have DH11 := H11.out (yV (hdep ⟨11, .data⟩ (by simp) rfl))
  have DH6 := H6.out (yV (hdep ⟨6, .chain⟩ (by simp) rfl))
  obtain ⟨hd10, g5, rfl, hg5⟩ := DH11
  obtain ⟨g10, rfl, e40, rfl, rfl⟩ := H10.out hd10
  obtain ⟨rfl, rfl, rfl⟩ := H12n.out hun
  subst ha
  rw [ha0]
  simp only [xH, List.foldl_cons, List.foldl_nil, Act.put, sPa, sPb, sPc]
  refine step_many' (by simp [Region.wanted]) (.tmp 38) (.tmp 41) 40 rfl qY 1 g5 1 rfl HM rfl rfl rfl rfl ?g112 ?g212 ?g312 hg5 rfl ?_
  case g112 => show q + 1 ≤ maxLen; unfold maxLen; omega
  case g212 => show (q + 1) * 24 ≤ 140737488355328; omega
  case g312 => exact hbase
  intro sa sc w6 hM6 hg6
  refine hK.out _ _ ?_
  refine ⟨x33, x34, x35, x36, x40, (.slice (some ⟨g5, 0, none⟩) 1 1), (.slice sa (q + 1) sc), x43, x44, b, vF, nF, xF, (.slice sa (q + 1) sc), (q + 1), (hs ++ [Value.slice (some ⟨g10, 0, none⟩) letters letters]), (Value.slice (some ⟨g10, 0, none⟩) letters letters), letters, (List.replicate letters (.int .i64 0)), ls, c2, c3, ?fa12, fun j hj => zH (HR j hj), Kh (fun h => H3.out (zC (by decide) h)), Kh (fun h => ⟨zH (H4.out (zC (by decide) h)).1, (H4.out (zC (by decide) h)).2⟩), Kh (fun h => ⟨zH (H5.out (zC (by decide) h)).1, (H5.out (zC (by decide) h)).2⟩), Kh (fun h => H6n.out (zM h)), Kh (fun h => ⟨zH (H6.out (zC (by decide) h)).1, (H6.out (zC (by decide) h)).2⟩), Kh (fun h => H10n.out (zM h)), Kh (fun _ => ⟨g10, rfl, e40, rfl, rfl⟩), Kh (fun _ => ⟨zH hd10, g5, rfl, hg5⟩), Kh (fun h => uG h), Kh (fun _ => ⟨zH (yV (hdep ⟨6, .chain⟩ (by simp) rfl)), zH hd10, sa, sc, rfl, rfl, rfl, rfl⟩), Kh (fun h => H13.out (zC (by decide) h)), Kh (fun h => H15.out (zC (by decide) h)), Kh (fun h => B2n.out (zM h)), Kh (fun h => absurd (B2.out (zC (by decide) h)).2.1 (by rw [hun]; simp)), Kh (fun h => B3n.out (zM h)), Kh (fun h => absurd (B3.out (zC (by decide) h)).1 (by rw [hun]; simp)), zB HB hg6 (fun e => HM.not_type HB (by simp) 1 _ rfl e), hM6, HT.kept hg6 (fun k e => by have := ((HM.own 1 _ rfl).lt k e).1; simp only at this; omega)⟩
  case fa12 => rw [ha0]; simp only [xH, List.foldl_cons, List.foldl_nil, Act.put, sPa, sPb, sPc]
 case s13 =>
  intro l a w h hun hdep K hK
  obtain ⟨x33, x34, x35, x36, x40, x41, x42, x43, x44, b, vF, nF, xF, vN, nN, xN, vR, nR, xR, ls, c2, c3, ha, HR, H3, H4, H5, H6n, H6, H10n, H10, H11, H12n, H12, H13, H15, B2n, B2, B3n, B3, HB, HM, HT⟩ := h
  subst ha
  rw [ha0]
  simp only [xH, List.foldl_cons, List.foldl_nil, Act.put, sPa, sPb, sPc]
  go_simp
  refine hK.out _ _ ?_
  refine ⟨x33, x34, x35, x36, x40, x41, x42, (.pointer (some ⟨P + 1, 2, none⟩)), x44, b, vF, nF, xF, vN, nN, xN, vR, nR, xR, ls, c2, c3, ?fa13, fun j hj => zH (HR j hj), Kh (fun h => H3.out (zC (by decide) h)), Kh (fun h => ⟨zH (H4.out (zC (by decide) h)).1, (H4.out (zC (by decide) h)).2⟩), Kh (fun h => ⟨zH (H5.out (zC (by decide) h)).1, (H5.out (zC (by decide) h)).2⟩), Kh (fun h => H6n.out (zM h)), Kh (fun h => ⟨zH (H6.out (zC (by decide) h)).1, (H6.out (zC (by decide) h)).2⟩), Kh (fun h => H10n.out (zM h)), Kh (fun h => H10.out (zC (by decide) h)), Kh (fun h => ⟨zH (H11.out (zC (by decide) h)).1, (H11.out (zC (by decide) h)).2⟩), Kh (fun h => H12n.out (zM h)), Kh (fun h => ⟨zH (H12.out (zC (by decide) h)).1, zH (H12.out (zC (by decide) h)).2.1, (H12.out (zC (by decide) h)).2.2⟩), Kh (fun _ => rfl), Kh (fun h => H15.out (zC (by decide) h)), Kh (fun h => B2n.out (zM h)), Kh (fun h => ⟨zH (B2.out (zC (by decide) h)).1, zH (B2.out (zC (by decide) h)).2.1, (B2.out (zC (by decide) h)).2.2⟩), Kh (fun h => B3n.out (zM h)), Kh (fun h => ⟨zH (B3.out (zC (by decide) h)).1, zH (B3.out (zC (by decide) h)).2.1, (B3.out (zC (by decide) h)).2.2⟩), HB, HM, HT⟩
  case fa13 => rw [ha0]; simp only [xH, List.foldl_cons, List.foldl_nil, Act.put, sPa, sPb, sPc]
 case s14 =>
  intro l a w h hun hdep K hK
  obtain ⟨x33, x34, x35, x36, x40, x41, x42, x43, x44, b, vF, nF, xF, vN, nN, xN, vR, nR, xR, ls, c2, c3, ha, HR, H3, H4, H5, H6n, H6, H10n, H10, H11, H12n, H12, H13, H15, B2n, B2, B3n, B3, HB, HM, HT⟩ := h
  have DH13 := H13.out (yV (hdep ⟨13, .data⟩ (by simp) rfl))
  have DH6 := H6.out (yV (hdep ⟨6, .data⟩ (by simp) rfl))
  have DH12 := H12.out (yV (hdep ⟨12, .chain⟩ (by simp) rfl))
  subst DH13
  obtain ⟨hd3, sa, sc, rfl, rfl, rfl, rfl⟩ := DH6
  have hd6 := yV (hdep ⟨6, .data⟩ (by simp) rfl)
  subst ha
  rw [ha0]
  simp only [xH, List.foldl_cons, List.foldl_nil, Act.put, sPa, sPb, sPc]
  obtain ⟨k0, k1, k2, k3⟩ := zG HB
  have kf := zE HB 2
  clear k0 k1
  go_simp
  have hg6 := zD w ⟨P + 1, 2, none⟩ (.slice sa (q + 1) sc)
  have hs6 := heap_setCell_same w (P + 1) 2 _ _ (.slice sa (q + 1) sc) HB
  refine hK.out _ _ ?_
  refine ⟨x33, x34, x35, (.slice sa (q + 1) sc), x40, x41, x42, (.pointer (some ⟨P + 1, 2, none⟩)), x44, b, (.slice sa (q + 1) sc), (q + 1), (bls fs ++ [Value.bool (decide (b = 1))]), vN, nN, xN, vR, nR, xR, ls, (.slice sa (q + 1) sc), c3, ?fa14, fun j hj => zH (HR j hj), Kh (fun h => H3.out (zC (by decide) h)), Kh (fun h => ⟨zH (H4.out (zC (by decide) h)).1, (H4.out (zC (by decide) h)).2⟩), Kh (fun h => ⟨zH (H5.out (zC (by decide) h)).1, (H5.out (zC (by decide) h)).2⟩), Kh (fun h => by rw [zH hd6] at h; cases h), Kh (fun _ => ⟨zH hd3, sa, sc, rfl, rfl, rfl, rfl⟩), Kh (fun h => H10n.out (zM h)), Kh (fun h => H10.out (zC (by decide) h)), Kh (fun h => ⟨zH (H11.out (zC (by decide) h)).1, (H11.out (zC (by decide) h)).2⟩), Kh (fun h => H12n.out (zM h)), Kh (fun h => ⟨zH (H12.out (zC (by decide) h)).1, zH (H12.out (zC (by decide) h)).2.1, (H12.out (zC (by decide) h)).2.2⟩), Kh (fun _ => rfl), Kh (fun h => H15.out (zC (by decide) h)), Kh (fun h => uG h), Kh (fun _ => ⟨zH (yV (hdep ⟨6, .data⟩ (by simp) rfl)), zH (yV (hdep ⟨12, .chain⟩ (by simp) rfl)), rfl⟩), Kh (fun h => B3n.out (zM h)), Kh (fun h => absurd (B3.out (zC (by decide) h)).2.1 (by rw [hun]; simp)), (by simpa using hs6), HM.far hg6 (by rw [HFF]; exact Or.inr (Or.inr rfl)) hQW (HM.not_type HB (by simp)), HT.kept hg6 (fun k e => by have e : P + 1 = k := Option.some.inj e; omega)⟩
  case fa14 => rw [ha0]; simp only [xH, List.foldl_cons, List.foldl_nil, Act.put, sPa, sPb, sPc]
 case s15 =>
  intro l a w h hun hdep K hK
  obtain ⟨x33, x34, x35, x36, x40, x41, x42, x43, x44, b, vF, nF, xF, vN, nN, xN, vR, nR, xR, ls, c2, c3, ha, HR, H3, H4, H5, H6n, H6, H10n, H10, H11, H12n, H12, H13, H15, B2n, B2, B3n, B3, HB, HM, HT⟩ := h
  subst ha
  rw [ha0]
  simp only [xH, List.foldl_cons, List.foldl_nil, Act.put, sPa, sPb, sPc]
  go_simp
  refine hK.out _ _ ?_
  refine ⟨x33, x34, x35, x36, x40, x41, x42, x43, (.pointer (some ⟨P + 1, 3, none⟩)), b, vF, nF, xF, vN, nN, xN, vR, nR, xR, ls, c2, c3, ?fa15, fun j hj => zH (HR j hj), Kh (fun h => H3.out (zC (by decide) h)), Kh (fun h => ⟨zH (H4.out (zC (by decide) h)).1, (H4.out (zC (by decide) h)).2⟩), Kh (fun h => ⟨zH (H5.out (zC (by decide) h)).1, (H5.out (zC (by decide) h)).2⟩), Kh (fun h => H6n.out (zM h)), Kh (fun h => ⟨zH (H6.out (zC (by decide) h)).1, (H6.out (zC (by decide) h)).2⟩), Kh (fun h => H10n.out (zM h)), Kh (fun h => H10.out (zC (by decide) h)), Kh (fun h => ⟨zH (H11.out (zC (by decide) h)).1, (H11.out (zC (by decide) h)).2⟩), Kh (fun h => H12n.out (zM h)), Kh (fun h => ⟨zH (H12.out (zC (by decide) h)).1, zH (H12.out (zC (by decide) h)).2.1, (H12.out (zC (by decide) h)).2.2⟩), Kh (fun h => H13.out (zC (by decide) h)), Kh (fun _ => rfl), Kh (fun h => B2n.out (zM h)), Kh (fun h => ⟨zH (B2.out (zC (by decide) h)).1, zH (B2.out (zC (by decide) h)).2.1, (B2.out (zC (by decide) h)).2.2⟩), Kh (fun h => B3n.out (zM h)), Kh (fun h => ⟨zH (B3.out (zC (by decide) h)).1, zH (B3.out (zC (by decide) h)).2.1, (B3.out (zC (by decide) h)).2.2⟩), HB, HM, HT⟩
  case fa15 => rw [ha0]; simp only [xH, List.foldl_cons, List.foldl_nil, Act.put, sPa, sPb, sPc]
 case s16 =>
  intro l a w h hun hdep K hK
  obtain ⟨x33, x34, x35, x36, x40, x41, x42, x43, x44, b, vF, nF, xF, vN, nN, xN, vR, nR, xR, ls, c2, c3, ha, HR, H3, H4, H5, H6n, H6, H10n, H10, H11, H12n, H12, H13, H15, B2n, B2, B3n, B3, HB, HM, HT⟩ := h
  have DH15 := H15.out (yV (hdep ⟨15, .data⟩ (by simp) rfl))
  have DH12 := H12.out (yV (hdep ⟨12, .data⟩ (by simp) rfl))
  have DB2 := B2.out (yV (hdep ⟨14, .chain⟩ (by simp) rfl))
  subst DH15
  obtain ⟨hd6, hd10, sa, sc, rfl, rfl, rfl, rfl⟩ := DH12
  have hd12 := yV (hdep ⟨12, .data⟩ (by simp) rfl)
  subst ha
  rw [ha0]
  simp only [xH, List.foldl_cons, List.foldl_nil, Act.put, sPa, sPb, sPc]
  obtain ⟨k0, k1, k2, k3⟩ := zG HB
  have kf := zE HB 3
  clear k0 k1
  go_simp
  have hg6 := zD w ⟨P + 1, 3, none⟩ (.slice sa (q + 1) sc)
  have hs6 := heap_setCell_same w (P + 1) 3 _ _ (.slice sa (q + 1) sc) HB
  refine hK.out _ _ ?_
  refine ⟨x33, x34, x35, x36, x40, x41, (.slice sa (q + 1) sc), x43, (.pointer (some ⟨P + 1, 3, none⟩)), b, vF, nF, xF, (.slice sa (q + 1) sc), (q + 1), (hs ++ [vR]), vR, nR, xR, ls, c2, (.slice sa (q + 1) sc), ?fa16, fun j hj => zH (HR j hj), Kh (fun h => H3.out (zC (by decide) h)), Kh (fun h => ⟨zH (H4.out (zC (by decide) h)).1, (H4.out (zC (by decide) h)).2⟩), Kh (fun h => ⟨zH (H5.out (zC (by decide) h)).1, (H5.out (zC (by decide) h)).2⟩), Kh (fun h => H6n.out (zM h)), Kh (fun h => ⟨zH (H6.out (zC (by decide) h)).1, (H6.out (zC (by decide) h)).2⟩), Kh (fun h => H10n.out (zM h)), Kh (fun h => H10.out (zC (by decide) h)), Kh (fun h => ⟨zH (H11.out (zC (by decide) h)).1, (H11.out (zC (by decide) h)).2⟩), Kh (fun h => by rw [zH hd12] at h; cases h), Kh (fun _ => ⟨zH hd6, zH hd10, sa, sc, rfl, rfl, rfl, rfl⟩), Kh (fun h => H13.out (zC (by decide) h)), Kh (fun _ => rfl), Kh (fun h => B2n.out (zM h)), Kh (fun h => ⟨zH (B2.out (zC (by decide) h)).1, zH (B2.out (zC (by decide) h)).2.1, (B2.out (zC (by decide) h)).2.2⟩), Kh (fun h => uG h), Kh (fun _ => ⟨zH (yV (hdep ⟨12, .data⟩ (by simp) rfl)), zH (yV (hdep ⟨14, .chain⟩ (by simp) rfl)), rfl⟩), (by simpa using hs6), HM.far hg6 (by rw [HFF]; exact Or.inr (Or.inr rfl)) hQW (HM.not_type HB (by simp)), HT.kept hg6 (fun k e => by have e : P + 1 = k := Option.some.inj e; omega)⟩
  case fa16 => rw [ha0]; simp only [xH, List.foldl_cons, List.foldl_nil, Act.put, sPa, sPb, sPc]
set_option maxRecDepth 100000 in
set_option maxHeartbeats 20000000 in
theorem jR (B tb : Nat) (w : World) (letters most : Nat) (h1 : 1 ≤ letters) (h6 : letters ≤ 6) (hm1 : 1 ≤ most) (hm : most ≤ 500) (hT : xC B w tb) :
  Calls Try.prog 48 #[.pointer (some ⟨tb, 0, none⟩), .int .i64 (letters : Int), .int .i64 (most : Int)] w (mL PermD B tb w letters most) := by
 have htb := hT.lt
 have hBt := hT.ge
 obtain ⟨wA, hWA⟩ : ∃ wA, wA = (w.alloc (.cells #[.int .i64 0, .int .i64 0, .slice none 0 0, .slice none 0 0] 42)).alloc (.cells #[.int .i64 letters, .int .i64 0, .slice none 0 0, .slice none 0 0] 42) := ⟨_, rfl⟩
 obtain ⟨hb1, hb2, hgA, hzA⟩ := rY w #[.int .i64 0, .int .i64 0, .slice none 0 0, .slice none 0 0] #[.int .i64 letters, .int .i64 0, .slice none 0 0, .slice none 0 0] 42
 rw [← hWA] at hb1 hb2 hgA hzA
 obtain ⟨P, hP⟩ : ∃ P, P = w.heap.size := ⟨_, rfl⟩
 have HPE := Kh hP
 rw [← hP] at hb1 hb2 hzA htb
 have hTA := hT.kept hgA (by simp)
 have HB1 := Kh hb1; have HB2 := Kh hb2; have HGA := Kh hgA; have HWA := Kh hWA; have HTA := Kh hTA
 clear hb1 hb2 hgA hWA hTA hT
 go_enter Try.func48, Try.ntmps48
 go_upto_region 2 with fail
 rw [← HWA.out, ← HPE.out]
 clear hP
 go_wp2_with fail
 refine (vB B tb _ _ (by omega) HTA.out).mono ?_
 rintro e w1 ⟨r, rfl, hr0, hr1, hT1, hg1⟩
 replace hr1 := hr1 (by omega)
 obtain ⟨n, rfl⟩ : ∃ n : Nat, r = (n : Int) - 1 := ⟨(r + 1).toNat, by omega⟩
 have hn1 : 1 ≤ n := by omega
 have hn2 : n ≤ most := by omega
 have hn0 : (1 : Int) + ((n : Int) - 1) = n := by omega
 have HT1 := Kh hT1; have HG1 := Kh hg1; have HN0 := Kh hn0
 clear hr0 hr1 hT1 hg1
 go_wp2_with fail
 refine (vB B tb _ _ (by omega) HT1.out).mono ?_
 rintro e w2 ⟨s, rfl, hs0, hs1, hT2, hg2⟩
 replace hs1 := hs1 (by omega)
 obtain ⟨s, rfl⟩ : ∃ s' : Nat, s = s' := ⟨s.toNat, by omega⟩
 have hg12 := zF HG1.out hg2
 have hbo := zB HB2.out hg12 (by simp; omega)
 obtain ⟨c0, c1, c2, c3⟩ := zG hbo
 have f1 := frozen_of_row w2 (P + 1) 1 _ _ hbo
 have HT2 := Kh hT2; have HG2 := Kh hg12
 clear hT2 hg2 hg12 HT1 HG1
 go_wp2
 obtain ⟨w3, hw3⟩ : ∃ w3, w3 = w2.setCell ⟨P + 1, 1, none⟩ (.int .i64 (s : Int)) := ⟨_, rfl⟩
 have hb3 : w3.heap[P + 1]? = some (.cells #[.int .i64 (letters : Int), .int .i64 (s : Int), .slice none 0 0, .slice none 0 0] 42 (0, 0)) := by rw [hw3, heap_setCell_same w2 (P + 1) 1 _ _ _ hbo]; simp
 have hg3 : w2.grownBy w3 (some (P + 1)) := by rw [hw3]; exact zD w2 ⟨P + 1, 1, none⟩ _
 have hb31 := zB (zB HB1.out HG2.out (by simp; omega)) hg3 (by simp)
 have hT3 := HT2.out.kept hg3 (fun k e => by have := Option.some.inj e; subst this; omega)
 have hgw : w.grownBy w3 (some tb) := zA (zF (zA (zL w (some tb)) HGA.out (by simp)) HG2.out) hg3 (fun x e => by have := Option.some.inj e; have := HPE.out; omega)
 have hH3 : Half (P + 1) w3 (P + 1) letters s [] [] [] none 0 none 0 := ⟨hb3, World.ownsRow_nil _ _ _ _, World.ownsRow_nil _ _ _ _, OwnsT.nil⟩
 have H3 := Kh hH3; have HB3 := Kh hb31; have HT3 := Kh hT3; have HG3 := Kh hgw
 rw [← hw3]
 clear hw3 hb3 hg3 hb31 hT3 hgw hH3 c0 c1 c2 c3 f1 hbo HT2 HG2
 have hmk := mk_int letters (by omega)
 have hmkz : Hid (madeCells #[.int .i64 0] letters = (List.replicate letters (Value.int .i64 0)).toArray) := Kh (by
  apply Array.toList_inj.1
  rw [made_int]; simp [nats])
 go_loopg [9] n (fun gh i wr => ∃ (q : Nat) (fs : List Bool) (t : List (List Int)) (hs : List Value) (sf : Option Addr) (cf : Nat) (sn : Option Addr) (cn : Nat), gh + q = n ∧ i = .int .i64 q ∧ fs.length = q ∧ t.length = q ∧ sW t n letters ∧ Half (P + 1) wr (P + 1) letters s fs t hs sf cf sn cn ∧ xC B wr tb ∧ wr.heap[P]? = some (.cells #[.int .i64 0, .int .i64 0, .slice none 0 0, .slice none 0 0] 42 (0, 0)) ∧ w.grownBy wr (some tb))
 case atStart => exact ⟨0, [], [], [], none, 0, none, 0, by omega, rfl, rfl, rfl, (fun r hr => by simp at hr), H3.out, HT3.out, HB3.out, HG3.out⟩
 case round =>
  obtain ⟨q, fs, t, hs, sf, cf, sn, cn, hg, rfl, hfl, htl, hri, hH, hTr, hb1r, hgr⟩ := hrel
  have HG := Kh hg; have HTR := Kh hTr; have HB1R := Kh hb1r; have HGR := Kh hgr; have HRI := Kh hri; have HFL := Kh hfl; have HTL := Kh htl; have HH := Kh hH
  clear hg hTr hb1r hgr hri hfl htl hH H3 HB3 HT3 HG3
  by_cases hq : q < n
  ·have hq' : (q : Int) < n := by omega
   obtain ⟨w5, hw5⟩ : ∃ w5, w5 = wr.drew := ⟨_, rfl⟩
   have hg5 : wr.grownBy w5 none := by rw [hw5]; exact zP wr none
   have HW5 := Kh hw5
   have HH5 := Kh (HH.out.grow hg5); have HT5 := Kh (HTR.out.kept hg5 (by simp)); have HG5 := Kh (zA HGR.out hg5 (by simp)); have HB1 := Kh (zB HB1R.out hg5 (by simp))
   have HB5 : Hid (w5.heap[P + 1]? = some (.cells #[.int .i64 letters, .int .i64 s, .slice sf q cf, .slice sn q cn] 42 (0, 0))) := Kh (by have := HH5.out.box; rw [HFL.out, HTL.out] at this; exact this)
   obtain ⟨d0, d1, d2, d3⟩ := zG HB5.out
   have C := Kh (And.intro d2 d3)
   have hQs := zN HB5.out
   have htW : Hid (tb < w5.heap.size) := Kh (by omega)
   have hQW : Hid (P + 1 < w5.heap.size) := Kh hQs
   have hbase : Hid (P + 1 ≤ w5.heap.size) := Kh (by omega)
   obtain ⟨FF, hFF⟩ : ∃ FF : Nat → Prop, FF = fun k => FB sf sn k ∨ k = tb ∨ k = P + 1 := ⟨_, rfl⟩
   have HM5 : Hid (Many w5 FF w5 [⟨P + 1, 4, .slice sf q cf, q, bls fs, 1⟩, ⟨P + 1, 34, .slice sn q cn, q, hs, 1⟩, ⟨P + 1, 3, .slice none 0 0, 0, [], 1⟩] [] []) := Kh (by
    have hF := HH5.out.ownF
    have hN := HH5.out.ownN
    rw [HFL.out] at hF
    rw [HTL.out] at hN
    refine Many.start (fun r hr => ?_) (fun r hr k hk => ?_) ?_
    ·simp only [List.mem_cons, List.not_mem_nil, or_false] at hr
     rcases hr with rfl | rfl | rfl
     ·exact hF
     ·exact hN
     ·exact World.ownsRow_nil _ _ _ _
    ·simp only [List.mem_cons, List.not_mem_nil, or_false] at hr
     rw [hFF]
     rcases hr with rfl | rfl | rfl
     ·exact .inl (.inr (by rw [← zR sf q cf]; exact hk))
     ·exact .inl (.inl (by rw [← zR sn q cn]; exact hk))
     ·simp [Value.ownBlock] at hk
    ·simp only [List.pairwise_cons, List.mem_cons, List.not_mem_nil, or_false, forall_eq_or_imp, forall_eq]
     exact ⟨⟨own_apart hF hN (by decide), by simp [Value.ownBlock]⟩, by simp [Value.ownBlock], by simp, List.Pairwise.nil⟩)
   clear d0 d1 d2 d3 hw5 hg5
   have HFF := Kh hFF
   clear hFF
   go_upto_region 7 with fail
   refine wp_region_noPanic ?_
   refine wC (G := uS 14 (fun _ => True) (fun W => W.cell? ⟨P + 1, 2, none⟩ = some (.slice sf q cf) ∧ W.cell? ⟨P + 1, 3, none⟩ = some (.slice sn q cn))) (by kernel_rfl) ?_
   rw [← HW5.out]
   refine takeC (i := 0) (v := ?_) rfl rfl (Or.inl ⟨by rfl, ?_⟩) ⟨trivial, fun _ => C.out⟩ ?_
   rotate_left
   ·(intro wz hz; (try dsimp only at hz); go_simp; (try with_reducible rfl))
   try simp only [Act.put, sPa, sPb, sPc]
   refine takeD (i := 1) (v := ?_) rfl rfl (Or.inl ⟨by rfl, ?_⟩) ⟨trivial, fun _ => C.out⟩ ?_
   rotate_left
   ·(rintro wz ⟨-, hz⟩; (try dsimp only at hz); go_simp; (try with_reducible rfl))
   try simp only [Act.put, sPa, sPb, sPc]
   refine takeC (i := 2) (v := ?_) rfl rfl (Or.inl ⟨by rfl, ?_⟩) ⟨trivial, fun _ => C.out⟩ ?_
   rotate_left
   ·(intro wz hz; (try dsimp only at hz); go_simp; (try with_reducible rfl))
   try simp only [Act.put, sPa, sPb, sPc]
   refine takeC (i := 7) (v := ?_) rfl rfl (Or.inl ⟨by rfl, ?_⟩) ⟨trivial, fun _ => C.out⟩ ?_
   rotate_left
   ·(intro wz hz; (try dsimp only at hz); go_simp; (try with_reducible rfl))
   try simp only [Act.put, sPa, sPb, sPc]
   refine takeD (i := 8) (v := ?_) rfl rfl (Or.inl ⟨by rfl, ?_⟩) ⟨trivial, fun _ => C.out⟩ ?_
   rotate_left
   ·(rintro wz ⟨-, hz⟩; (try dsimp only at hz); go_simp; (try with_reducible rfl))
   try simp only [Act.put, sPa, sPb, sPc]
   refine takeC (i := 9) (v := ?_) rfl rfl (Or.inl ⟨by rfl, ?_⟩) ⟨trivial, fun _ => C.out⟩ ?_
   rotate_left
   ·(intro wz hz; (try dsimp only at hz); go_simp; (try with_reducible rfl))
   try simp only [Act.put, sPa, sPb, sPc]
   refine wpAnyG_named (fun Wp hWp a0 ha0 => ?_)
   subst hWp
   simp only [Act.put, List.getElem_toArray, List.getElem_cons_zero, List.getElem_cons_succ, sPa, sPb, sPc] at ha0
   have HA0 := Kh ha0
   refine wpAnyG_steps (I := perm7I B tb P letters q s fs hs sf cf sn cn w5 FF a0) (fun l a w h => perm7_G h) (perm7_steps ha0 hBt htb h6 (by omega) htW.out hQW.out hbase.out HFF.out hmk hmkz) (by kernel_rfl) ?hend (by decide +kernel) ?hinit
   case hinit =>
    clear ha0
    refine ⟨a0.tmps.getD 33 undef, a0.tmps.getD 34 undef, a0.tmps.getD 35 undef, a0.tmps.getD 36 undef, a0.tmps.getD 40 undef, a0.tmps.getD 41 undef, a0.tmps.getD 42 undef, a0.tmps.getD 43 undef, a0.tmps.getD 44 undef, 0, .slice sf q cf, q, bls fs, .slice sn q cn, q, hs, .slice none 0 0, 0, [], [], .slice sf q cf, .slice sn q cn, (lJ (by simp)).symm, by decide +kernel, Kh (fun h => absurd h (by decide +kernel)), Kh (fun h => absurd h (by decide +kernel)), Kh (fun h => absurd h (by decide +kernel)), Kh (fun _ => ⟨rfl, rfl, rfl⟩), Kh (fun h => absurd h (by decide +kernel)), Kh (fun _ => ⟨rfl, rfl, rfl⟩), Kh (fun h => absurd h (by decide +kernel)), Kh (fun h => absurd h (by decide +kernel)), Kh (fun _ => ⟨rfl, rfl, rfl⟩), Kh (fun h => absurd h (by decide +kernel)), Kh (fun h => absurd h (by decide +kernel)), Kh (fun h => absurd h (by decide +kernel)), Kh (fun _ => rfl), Kh (fun h => absurd h (by decide +kernel)), Kh (fun _ => rfl), Kh (fun h => absurd h (by decide +kernel)), HB5.out, HM5.out, HT5.out⟩
   case hend =>
    clear ha0
    intro l a w h hall
    obtain ⟨x33, x34, x35, x36, x40, x41, x42, x43, x44, b, vF, nF, xF, vN, nN, xN, vR, nR, xR, ls, c2, c3, ha, HR, H3, H4, H5, H6n, H6, H10n, H10, H11, H12n, H12, H13, H15, B2n, B2, B3n, B3, HB, HM, HT⟩ := h
    have H3 := H3.out (hall 3 (by decide))
    have H4 := H4.out (hall 4 (by decide))
    have H5 := H5.out (hall 5 (by decide))
    have H6 := H6.out (hall 6 (by decide))
    have H10 := H10.out (hall 10 (by decide))
    have H11 := H11.out (hall 11 (by decide))
    have H12 := H12.out (hall 12 (by decide))
    have H13 := H13.out (hall 13 (by decide))
    have H15 := H15.out (hall 15 (by decide))
    have B2 := B2.out (hall 14 (by decide))
    have B3 := B3.out (hall 16 (by decide))
    have H6 := H6.2
    have H12 := H12.2.2
    obtain ⟨sa, sc, rfl, rfl, hq6, rfl⟩ := H6
    obtain ⟨g10, rfl, rfl, hq10, rfl⟩ := H10
    obtain ⟨sa2, sc2, rfl, rfl, hq12, rfl⟩ := H12
    subst hq6; subst hq10; subst hq12
    have e2 := B2.2.2; have e3 := B3.2.2
    rw [e2, e3] at HB
    have hoth : ∀ k, FF k → zY w5 3 k := by
     intro k hk
     rw [HFF.out] at hk
     rcases hk with (hk | hk) | rfl | rfl
     ·exact yB HH5.out.ownN (by decide) k (by rw [zR]; exact hk)
     ·exact yB HH5.out.ownF (by decide) k (by rw [zR]; exact hk)
     ·obtain ⟨sl, zs, j, hr, _⟩ := HT5.out
      exact ⟨_, _, _, hr, by decide⟩
     ·exact ⟨_, _, _, HB5.out, by decide⟩
    have hge : ∀ k, FF k → k = tb ∨ P + 1 ≤ k := by
     intro k hk
     rw [HFF.out] at hk
     rcases hk with (hk | hk) | rfl | rfl
     ·exact .inr (HH5.out.ownN.lt k (by rw [zR]; exact hk)).1
     ·exact .inr (HH5.out.ownF.lt k (by rw [zR]; exact hk)).1
     ·exact .inl rfl
     ·exact .inr (Nat.le_refl _)
    have hHW := HH5.out.ofMany HFL.out HTL.out (row := List.replicate letters 0) (k := letters) (by simp) (by simpa [ints] using HM) hoth HB
    have HHW := Kh hHW; have HTW := Kh HT
    have HGW := Kh (HM.but.grown HG5.out (fun k hk => by
     rcases hge k hk with e | e
     ·exact .inl (by rw [e])
     ·exact .inr (by have := HPE.out; omega)))
    have HBW := Kh (HM.but.heap HB1.out (fun hk => by
     rcases hge P hk with e | e
     ·omega
     ·omega))
    clear hHW HM HB HT hoth hge e2 e3 B2 B3 H3 H4 H5 H11 H13 H15 B2n B3n H6n H10n H12n HR
    subst ha
    rw [HA0.out]
    simp only [xH, List.foldl_cons, List.foldl_nil, Act.put, sPa, sPb, sPc]
    refine NoPanic.normal ?_
    go_wp2
    go_roundg (n - (q + 1))
    case measure => have := HG.out; omega
    case rel =>
     refine ⟨q + 1, fs ++ [decide (b = 1)], t ++ [List.replicate letters 0], _, sa, sc, sa2, sc2, by omega, by go_num, by simp [HFL.out], by simp [HTL.out], ?_, HHW.out, HTW.out, HBW.out, HGW.out⟩
     intro r hr
     rcases List.mem_append.1 hr with hr | hr
     ·exact HRI.out r hr
     ·rw [List.mem_singleton] at hr
      subst hr
      exact ⟨by simp, fun x hx => by rw [List.mem_replicate] at hx; omega⟩
   
  ·have hqn : q = n := by have := HG.out; omega
   subst hqn
   clear HG hmk hmkz
   obtain ⟨wo, hwo⟩ : ∃ wo, wo = wr := ⟨_, rfl⟩
   rw [← hwo] at HTR HB1R HGR HH ⊢
   clear hwo wr
   go_wp2
   go_loopg [10, 11, 12, 13, 14] letters (fun gh ia v11 v12 v13 v14 wr => ∃ (a : Nat) (t : List (List Int)), gh + a = letters ∧ ia = .int .i64 a ∧ t.length = q ∧ sW t q letters ∧ (∀ a', a' < a → ∀ q1 q2, q1 < q → q2 < q → ent t q1 a' = ent t q2 a' → q1 = q2) ∧ Half (P + 1) wr (P + 1) letters s fs t hs sf cf sn cn ∧ xC B wr tb ∧ wr.heap[P]? = some (.cells #[.int .i64 0, .int .i64 0, .slice none 0 0, .slice none 0 0] 42 (0, 0)) ∧ w.grownBy wr (some tb))
   case atStart => exact ⟨0, t, by omega, rfl, HTL.out, HRI.out, fun a' h => by omega, HH.out, HTR.out, HB1R.out, HGR.out⟩
   case round =>
    obtain ⟨a, t, hg, rfl, htl, hri, hper, hH, hTr, hb1r, hgr⟩ := hrel
    have HG := Kh hg; have HTR2 := Kh hTr; have HB1R2 := Kh hb1r; have HGR2 := Kh hgr; have HRI2 := Kh hri; have HTL2 := Kh htl; have HH2 := Kh hH; have HPE2 := Kh hper
    clear hg hTr hb1r hgr hri htl hH hper HTL HRI HH HTR HB1R HGR
    by_cases ha : a < letters
    ·have ha' : (a : Int) < letters := by omega
     obtain ⟨w9, hw9⟩ : ∃ w9, w9 = wr := ⟨_, rfl⟩
     rw [← hw9] at HTR2 HB1R2 HGR2 HH2 ⊢
     clear hw9 wr
     go_wp2
     go_loopg [11, 12] q (fun gh lv i wx => ∃ (c : Nat) (sl : Option Addr) (cl : Nat), gh + c = q ∧ i = .int .i64 c ∧ lv = .slice sl c cl ∧ wx.ownsRow w9.heap.size 3 1 (.slice sl c cl) c (ints ((List.range c).map fun (x : Nat) => (x : Int))) ∧ w9.grownBy wx none)
     case atStart => exact ⟨0, none, 0, by omega, rfl, rfl, World.ownsRow_nil _ _ _ _, zL _ _⟩
     case round =>
      obtain ⟨c, sl, cl, hg, rfl, rfl, hown, hgx⟩ := hrel
      have HG3 := Kh hg; have HO3 := Kh hown; have HX3 := Kh hgx
      clear hg hown hgx
      by_cases hc : c < q
      ·have hc' : (c : Int) < q := by omega
       have hzx := HX3.out.size
       go_wp2_with (first | (at_builtin; refine app1 rfl _ _ _ rfl xP w9.heap.size _ c _ rfl HO3.out _ rfl rfl ?c1 ?c2 ?c3 ?_) | fail)
       case c1 => unfold maxLen; omega
       case c2 => omega
       case c3 => exact hzx
       intro sl' cl' w10 hown10 hg10 hlt10
       have HO10 := Kh hown10
       have HG10 := Kh (zA HX3.out hg10 (fun k e => (HO3.out.lt k e).1))
       clear hown10 hg10
       go_wp2
       go_roundg (q - (c + 1))
       case measure => have := HG3.out; omega
       case rel =>
        refine ⟨c + 1, sl', cl', by omega, by go_num, rfl, ?_, HG10.out⟩
        rw [List.range_succ, List.map_append, show ints (List.map (fun (x : Nat) => (x : Int)) (List.range c) ++ List.map (fun (x : Nat) => (x : Int)) [c]) = ints (List.map (fun (x : Nat) => (x : Int)) (List.range c)) ++ [.int .i64 (c : Int)] by simp [ints]]
        exact HO10.out
      ·have hcq : c = q := by have := HG3.out; omega
       subst hcq
       have hg9 := HX3.out
       have HH4 := Kh (HH2.out.grow hg9); have HTR4 := Kh (HTR2.out.kept hg9 (by simp)); have HB4 := Kh (zB HB1R2.out hg9 (by simp)); have HG4 := Kh (zA HGR2.out hg9 (by simp))
       have hgl : ∀ q', q' < c → ∀ g cc n', hs[q']? = some (.slice (some ⟨g, 0, none⟩) n' cc) → g < w9.heap.size := fun q' hq' g cc n' e => by
        obtain ⟨hi, he⟩ := List.getElem?_eq_some_iff.1 e
        exact (HH2.out.rows.lt hi (by rw [he]; rfl)).2
       have HGL := Kh hgl
       have hzx := HX3.out.size
       have htb9 := HTR2.out.lt
       clear hg9 hgl HG3
       obtain ⟨wi, hwi⟩ : ∃ wi, wi = wr := ⟨_, rfl⟩
       rw [← hwi] at HO3 HX3 HH4 HTR4 HB4 HG4 hzx ⊢
       clear hwi wr
       go_wp2
       go_loopg [11, 13, 14] c (fun gh lv i kv wy => ∃ (p : Nat) (t : List (List Int)) (L : List Int) (sl : Option Addr) (cl : Nat), gh + p = c ∧ i = .int .i64 p ∧ lv = .slice sl L.length cl ∧ wy.ownsRow w9.heap.size 3 1 (.slice sl L.length cl) L.length (ints L) ∧ PermTo t c p a L ∧ t.length = c ∧ sW t c letters ∧ Half (P + 1) wy (P + 1) letters s fs t hs sf cf sn cn ∧ xC B wy tb ∧ wy.heap[P]? = some (.cells #[.int .i64 0, .int .i64 0, .slice none 0 0, .slice none 0 0] 42 (0, 0)) ∧ w.grownBy wy (some tb) ∧ w9.heap.size ≤ wy.heap.size)
       case atStart => exact ⟨0, t, (List.range c).map fun (x : Nat) => (x : Int), sl, cl, by omega, rfl, by simp, by simpa using HO3.out, PermTo.begin HPE2.out, HTL2.out, HRI2.out, HH4.out, HTR4.out, HB4.out, HG4.out, hzx⟩
       case round =>
        obtain ⟨p, t, L, sl, cl, hg, rfl, rfl, hown, hpt, htl, hri, hH, hTr, hbr, hgr, hsz⟩ := hrel
        have HG5 := Kh hg; have HO5 := Kh hown; have HPT := Kh hpt; have HRI5 := Kh hri; have HH5 := Kh hH; have HT5 := Kh hTr; have HB5 := Kh hbr; have HGR5 := Kh hgr; have HTL5 := Kh htl; have HLL := Kh hpt.len
        clear hg hown hpt hri hH hTr hbr hgr htl HH4 HTR4 HB4 HG4 HO3 HX3
        by_cases hp : p < c
        ·have hp' : (p : Int) < c := by omega
         have hLp : 1 ≤ L.length := by have := HLL.out; omega
         have hLc : L.length ≤ 500 := by have := HLL.out; omega
         go_wp2_with fail
         refine (vB B tb _ _ (by omega) HT5.out).mono ?_
         rintro e w6 ⟨k, rfl, hk0, hk1, hT6, hg6⟩
         replace hk1 := hk1 (by omega)
         obtain ⟨k, rfl⟩ : ∃ k' : Nat, k = k' := ⟨k.toNat, by omega⟩
         have hkL : k < L.length := by omega
         have hH6 := HH5.out.tape HT5.out hg6
         have ho6 := yI HO5.out hg6 (by simpa using htb9)
         have HH6 := Kh hH6; have HT6 := Kh hT6; have HO6 := Kh ho6
         have HG6 := Kh (zF HGR5.out hg6); have HB6 := Kh (zB HB5.out hg6 (by simp; have := HPE.out; omega))
         have hsz6 := Nat.le_trans hsz hg6.size
         clear hH6 hT6 ho6 hg6 HT5 HO5 HH5 HB5 HGR5 hsz
         have hrl : (t.getD p []).length = letters := (HRI5.out _ (oI (by have := HTL5.out; omega))).1
         obtain ⟨w7, hw7⟩ : ∃ w7, w7 = w6.drew := ⟨_, rfl⟩
         have hg7 : w6.grownBy w7 none := by rw [hw7]; exact zP w6 none
         have HW7 := Kh hw7
         have HH7 := Kh (HH6.out.grow hg7); have HT7 := Kh (HT6.out.kept hg7 (by simp)); have HO7 := Kh (yI HO6.out hg7 (by simp)); have HG7 := Kh (zA HG6.out hg7 (by simp)); have HB7 := Kh (zB HB6.out hg7 (by simp))
         have hsz7 := Nat.le_trans hsz6 hg7.size
         clear hw7 hg7 HH6 HT6 HO6 HG6 HB6 hsz6
         obtain ⟨lb, rfl, hl1, hl2, hLA⟩ := xJ HO7.out (by omega)
         obtain ⟨kb, g, cc, rfl, e1, e2, e3, e4, e5, e6, e7, e8⟩ := HH7.out.at (q := p) (by have := HTL5.out; omega) (by omega)
         have hbox7 := HH7.out.box
         rw [HTL5.out] at hbox7
         obtain ⟨d0, d1, d2, d3⟩ := zG hbox7
         rw [hrl] at e3 e4 e5
         rw [HTL5.out] at e1
         have hcell := hLA.int k hkL
         obtain ⟨x, hxe⟩ : ∃ x, x = L.getD k 0 := ⟨_, rfl⟩
         rw [← hxe] at hcell
         have HX := Kh hxe
         have hfz := e8.frozen a
         have E3 := Kh e3; have E8 := Kh e8
         have hcn : cn ≤ 9223372036854775807 := by unfold maxLen at e2; omega
         have hcc : cc ≤ 9223372036854775807 := by unfold maxLen at e6; omega
         have hcl : cl ≤ 9223372036854775807 := by unfold maxLen at hl2; omega
         have hgl7 := HGL.out p (by omega) g cc _ e3
         have hlen0 : letters ≤ 6 := h6
         have hkLi : (k : Int) < (L.length : Nat) := by omega
         have C := Kh (And.intro d3 (And.intro e4 (And.intro hcell hfz)))
         have HRL := Kh hrl
         clear d0 d1 d2 d3 e3 e4 e8 hLA hcell hfz hxe hbox7 hrl e2 e6
         go_upto_region 20 with fail
         refine wp_region_noPanic ?_
         refine wC (G := uS 11 (fun _ => True) (fun W => W.cell? ⟨P + 1, 3, none⟩ = some (.slice (some ⟨kb, 0, none⟩) c cn) ∧ W.cell? ⟨kb, p, none⟩ = some (.slice (some ⟨g, 0, none⟩) letters cc) ∧ W.cell? ⟨lb, k, none⟩ = some (.int .i64 x) ∧ W.frozen? ⟨g, a, none⟩ = false)) (by kernel_rfl) ?_
         rw [← HW7.out]
         refine takeC (i := 0) (v := ?_) rfl rfl (Or.inl ⟨by rfl, ?_⟩) ⟨trivial, fun _ => C.out⟩ ?_
         rotate_left
         ·(intro wz hz; (try dsimp only at hz); go_simp; (try with_reducible rfl))
         try simp only [Act.put, sPa, sPb, sPc]
         refine takeD (i := 1) (v := ?_) rfl rfl (Or.inl ⟨by rfl, ?_⟩) ⟨trivial, fun _ => C.out⟩ ?_
         rotate_left
         ·(rintro wz ⟨-, hz⟩; (try dsimp only at hz); go_simp; (try with_reducible rfl))
         try simp only [Act.put, sPa, sPb, sPc]
         refine takeC (i := 2) (v := ?_) rfl rfl (Or.inl ⟨by rfl, ?_⟩) ⟨trivial, fun _ => C.out⟩ ?_
         rotate_left
         ·(intro wz hz; (try dsimp only at hz); go_simp; (try with_reducible rfl))
         try simp only [Act.put, sPa, sPb, sPc]
         refine takeC (i := 3) (v := ?_) rfl rfl (Or.inl ⟨by rfl, ?_⟩) ⟨trivial, fun _ => C.out⟩ ?_
         rotate_left
         ·(intro wz hz; (try dsimp only at hz); go_simp; (try with_reducible rfl))
         try simp only [Act.put, sPa, sPb, sPc]
         refine takeD (i := 4) (v := ?_) rfl rfl (Or.inl ⟨by rfl, ?_⟩) ⟨trivial, fun _ => C.out⟩ ?_
         rotate_left
         ·(rintro wz ⟨-, hz⟩; (try dsimp only at hz); go_simp; (try with_reducible rfl))
         try simp only [Act.put, sPa, sPb, sPc]
         refine takeC (i := 5) (v := ?_) rfl rfl (Or.inl ⟨by rfl, ?_⟩) ⟨trivial, fun _ => C.out⟩ ?_
         rotate_left
         ·(intro wz hz; (try dsimp only at hz); go_simp; (try with_reducible rfl))
         try simp only [Act.put, sPa, sPb, sPc]
         refine takeC (i := 6) (v := ?_) rfl rfl (Or.inl ⟨by rfl, ?_⟩) ⟨trivial, fun _ => C.out⟩ ?_
         rotate_left
         ·(intro wz hz; (try dsimp only at hz); go_simp; (try with_reducible rfl))
         try simp only [Act.put, sPa, sPb, sPc]
         refine takeC (i := 7) (v := ?_) rfl rfl (Or.inl ⟨by rfl, ?_⟩) ⟨trivial, fun _ => C.out⟩ ?_
         rotate_left
         ·(intro wz hz; (try dsimp only at hz); go_simp; (try with_reducible rfl))
         try simp only [Act.put, sPa, sPb, sPc]
         refine takeC (i := 8) (v := ?_) rfl rfl (Or.inl ⟨by rfl, ?_⟩) ⟨trivial, fun _ => C.out⟩ ?_
         rotate_left
         ·(intro wz hz; (try dsimp only at hz); go_simp; (try with_reducible rfl))
         try simp only [Act.put, sPa, sPb, sPc]
         refine takeD (i := 9) (v := ?_) rfl rfl (Or.inl ⟨by rfl, ?_⟩) ⟨trivial, fun _ => C.out⟩ ?_
         rotate_left
         ·(rintro wz ⟨-, hz⟩; (try dsimp only at hz); go_simp; (try with_reducible rfl))
         try simp only [Act.put, sPa, sPb, sPc]
         refine takeC (i := 10) (v := ?_) rfl rfl (Or.inl ⟨by rfl, ?_⟩) ⟨trivial, fun _ => C.out⟩ ?_
         rotate_left
         ·(intro wz hz; (try dsimp only at hz); go_simp; (try with_reducible rfl))
         try simp only [Act.put, sPa, sPb, sPc]
         refine oneG (i := 11) (by kernel_rfl) rfl (fun K hK => ?_)
         have hfz := C.out.2.2.2
         have hga := E8.out.int a (by rw [HRL.out]; exact ha)
         go_simp
         refine hK.out _ _ ⟨trivial, fun h => by simp at h⟩ ?_
         clear hK K
         try simp only [Act.put, sPa, sPb, sPc]
         refine kH (by kernel_rfl) ?_ _
         refine NoPanic.normal ?_
         have hg8 := zD w7 ⟨g, a, none⟩ (.int .i64 x)
         have HH8 := Kh (HH7.out.poke E3.out E8.out (by rw [HRL.out]; exact ha) x)
         have HT8 := Kh (HT7.out.kept hg8 (fun k e => by have e : g = k := Option.some.inj e; omega))
         have HB8 := Kh (zB HB7.out hg8 (fun e => by have e : g = P := Option.some.inj e; omega))
         have HG8 := Kh (zA HG7.out hg8 (fun k e => by have e : g = k := Option.some.inj e; have := HPE.out; omega))
         have HO8 := Kh (yI HO7.out hg8 (fun k e => by have e : g = k := Option.some.inj e; omega))
         have hsz8 : w9.heap.size ≤ (w7.setCell ⟨g, a, none⟩ (.int .i64 x)).heap.size := Nat.le_trans hsz7 hg8.size
         obtain ⟨w8, hw8⟩ : ∃ w8, w8 = w7.setCell ⟨g, a, none⟩ (.int .i64 x) := ⟨_, rfl⟩
         rw [← hw8] at HH8 HT8 HB8 HG8 HO8 hsz8 ⊢
         obtain ⟨wA2, hwA2⟩ : ∃ wA2, wA2 = w8.drew := ⟨_, rfl⟩
         have hgA2 : w8.grownBy wA2 none := by rw [hwA2]; exact zP w8 none
         have HWA2 := Kh hwA2
         have HH9 := Kh (HH8.out.grow hgA2); have HT9 := Kh (HT8.out.kept hgA2 (by simp)); have HO9 := Kh (yI HO8.out hgA2 (by simp)); have HG9 := Kh (zA HG8.out hgA2 (by simp)); have HB9 := Kh (zB HB8.out hgA2 (by simp))
         have hsz9 := Nat.le_trans hsz8 hgA2.size
         clear hga hw8 hg8 hwA2 hgA2 HH8 HT8 HB8 HG8 HO8 hsz8 hfz C HW7 HH7 HT7 HO7 HG7 HB7 hsz7 E8 E3
         go_upto_region 21 with fail
         refine wp_region_noPanic ?_
         refine wC (G := uS 99 (fun _ => True) (fun _ => True)) (by kernel_rfl) ?_
         rw [← HWA2.out]
         have hkcl : k ≤ cl := by omega
         have hwr : IntKind.i64.wrap ((k : Int) + 1) = (k : Int) + 1 := IntWalk.i64_in _ (by omega)
         have hbd1 : (0 : Int) ≤ (k : Int) + 1 := by omega
         have hbd2 : (k : Int) + 1 ≤ (L.length : Nat) := by omega
         have htn : ((k : Int) + 1).toNat = k + 1 := by omega
         refine takeC (i := 1) (v := ?_) rfl rfl (Or.inl ⟨by rfl, ?_⟩) ⟨trivial, fun _ => trivial⟩ ?_
         rotate_left
         ·(intro wz hz; (try dsimp only at hz); go_simp; (try with_reducible rfl))
         try simp only [Act.put, sPa, sPb, sPc]
         refine takeC (i := 2) (v := ?_) rfl rfl (Or.inl ⟨by rfl, ?_⟩) ⟨trivial, fun _ => trivial⟩ ?_
         rotate_left
         ·(intro wz hz; (try dsimp only at hz); go_simp; (try with_reducible rfl))
         try simp only [Act.put, sPa, sPb, sPc]
         refine takeC (i := 3) (v := ?_) rfl rfl (Or.inl ⟨by rfl, ?_⟩) ⟨trivial, fun _ => trivial⟩ ?_
         rotate_left
         ·(intro wz hz; (try dsimp only at hz); go_simp; (try with_reducible rfl))
         try simp only [Act.put, sPa, sPb, sPc]
         refine takeC (i := 5) (v := ?_) rfl rfl (Or.inl ⟨by rfl, ?_⟩) ⟨trivial, fun _ => trivial⟩ ?_
         rotate_left
         ·(intro wz hz; (try dsimp only at hz); go_simp; (try with_reducible rfl))
         try simp only [Act.put, sPa, sPb, sPc]
         refine takeC (i := 6) (v := ?_) rfl rfl (Or.inl ⟨by rfl, ?_⟩) ⟨trivial, fun _ => trivial⟩ ?_
         rotate_left
         ·(intro wz hz; (try dsimp only at hz); go_simp; (try with_reducible rfl))
         try simp only [Act.put, sPa, sPb, sPc]
         refine takeC (i := 7) (v := ?_) rfl rfl (Or.inl ⟨by rfl, ?_⟩) ⟨trivial, fun _ => trivial⟩ ?_
         rotate_left
         ·(intro wz hz; (try dsimp only at hz); go_simp; (try with_reducible rfl))
         try simp only [Act.put, sPa, sPb, sPc]
         refine takeC (i := 8) (v := ?_) rfl rfl (Or.inl ⟨by rfl, ?_⟩) ⟨trivial, fun _ => trivial⟩ ?_
         rotate_left
         ·(intro wz hz; (try dsimp only at hz); go_simp; (try with_reducible rfl))
         try simp only [Act.put, sPa, sPb, sPc]
         clear hwr hbd1 hbd2 htn
         generalize hEE : (if cl = k + 1 then (some ⟨lb, 0, none⟩ : Option Addr) else some ⟨lb, k + 1, none⟩) = EE
         have HEE := Kh hEE
         clear hEE
         refine oneG (i := 0) (by kernel_rfl) rfl (fun K hK => ?_)
         go_simp
         refine hK.out _ _ ⟨trivial, fun _ => trivial⟩ ?_
         clear hK K
         try simp only [Act.put, sPa, sPb, sPc]
         have hgn := heap_alloc_new wA2 (.cells #[] 3)
         have hgr := World.grownBy_alloc wA2 (.cells #[] 3) none
         have hzn := zJ wA2 (.cells #[] 3)
         obtain ⟨gN, hgN⟩ : ∃ gN, gN = wA2.heap.size := ⟨_, rfl⟩
         obtain ⟨wN, hwN⟩ : ∃ wN, wN = wA2.alloc (.cells #[] 3) := ⟨_, rfl⟩
         rw [← hwN] at hgn hgr hzn ⊢
         rw [← hgN] at hgn hzn ⊢
         have hoN := mB (base := w9.heap.size) hgn (by omega)
         have hoL := yI HO9.out hgr (by simp)
         have hlbN : lb < gN := by rw [hgN]; exact (HO9.out.lt lb rfl).2
         obtain ⟨lb', e9, hl1', hl2', hLA⟩ := xJ hoL (by omega)
         have e9 : lb = lb' := by simpa using e9
         subst e9
         refine oneG (i := 4) (by kernel_rfl) rfl (fun K hK => ?_)
         refine step_appR rfl (.tmp 79) (.tmp 82) 34 rfl xP w9.heap.size (.slice (some ⟨gN, 0, none⟩) 0 0) 0 [] rfl hoN _ (ints (L.take k)) rfl ⟨_, row_front hLA (by omega) hl1 hl2⟩ ?x1 k ?x2 ?x3 ?x4 ?x5 ?_
         case x1 => intro u hu; obtain ⟨y, _, rfl⟩ := List.mem_map.1 hu; rfl
         case x2 => rw [yW, List.length_take]; omega
         case x3 => unfold maxLen; omega
         case x4 => omega
         case x5 => omega
         intro sb cb wM hoM hgM
         have hoL2 := hoL.kept hgM (.inr (fun e => Nat.ne_of_lt hlbN (by simpa [Value.ownBlock] using e)))
         have hzM := hgM.size
         refine hK.out _ _ ⟨trivial, fun _ => trivial⟩ ?_
         clear hK K
         try simp only [Act.put, sPa, sPb, sPc]
         rw [List.nil_append] at hoM
         obtain ⟨lb', e9, hl1'', hl2'', hLA2⟩ := xJ hoL2 (by omega)
         have e9 : lb = lb' := by simpa using e9
         subst e9
         refine oneG (i := 9) (by kernel_rfl) rfl (fun K hK => ?_)
         refine step_appR rfl (.tmp 83) (.tmp 87) 34 rfl xP w9.heap.size (.slice sb k cb) k _ rfl hoM _ (ints (L.drop (k + 1))) rfl ⟨_, by rw [← HEE.out]; exact row_back hLA2 (by omega) hl1 hl2⟩ ?y1 (L.length - 1) ?y2 ?y3 ?y4 ?y5 ?_
         case y1 => intro u hu; obtain ⟨y, _, rfl⟩ := List.mem_map.1 hu; rfl
         case y2 => rw [yW, List.length_drop]; omega
         case y3 => unfold maxLen; omega
         case y4 => omega
         case y5 => omega
         intro sd cd wQ hoQ hgQ
         refine hK.out _ _ ⟨trivial, fun _ => trivial⟩ ?_
         clear hK K
         try simp only [Act.put, sPa, sPb, sPc]
         refine oneG (i := 10) (by kernel_rfl) rfl (fun K hK => ?_)
         go_simp
         refine hK.out _ _ ⟨trivial, fun _ => trivial⟩ ?_
         clear hK K
         try simp only [Act.put, sPa, sPb, sPc]
         refine kH (by kernel_rfl) ?_ _
         refine NoPanic.normal ?_
         have g1 := hgr
         have lo : ∀ kk, (Value.slice (some ⟨gN, 0, none⟩) 0 0).ownBlock = some kk → w9.heap.size ≤ kk ∧ P + 2 ≤ kk := fun kk e => by
          have e : gN = kk := by simpa [Value.ownBlock] using e
          omega
         have lM : ∀ kk, (Value.slice sb k cb).ownBlock = some kk → w9.heap.size ≤ kk ∧ P + 2 ≤ kk := fun kk e => by
          have := (hoM.lt kk e).1
          omega
         have HHQ := Kh (((HH9.out.grow hgr).keptAbove HH2.out (by rw [List.length_set, HTL2.out, HTL5.out]) hgM (fun kk e => (lo kk e).1)).keptAbove HH2.out (by rw [List.length_set, HTL2.out, HTL5.out]) hgQ (fun kk e => (lM kk e).1))
         have HTQ := Kh (((HT9.out.kept hgr (by simp)).kept hgM (fun kk e => by have := lo kk e; omega)).kept hgQ (fun kk e => by have := lM kk e; omega))
         have HBQ := Kh (zB (zB (zB HB9.out hgr (by simp)) hgM (fun e => by have := lo P e; omega)) hgQ (fun e => by have := lM P e; omega))
         have HGQ := Kh (zA (zA (zA HG9.out hgr (by simp)) hgM (fun kk e => by have := lo kk e; have := HPE.out; omega)) hgQ (fun kk e => by have := lM kk e; have := HPE.out; omega))
         have hszQ := Nat.le_trans hsz9 (Nat.le_trans hgr.size (Nat.le_trans hgM.size hgQ.size))
         have HOQ := Kh hoQ
         clear hgr hgM hgQ hoM hoQ hoN hoL hoL2 hLA hLA2 hgn lo lM HH9 HT9 HB9 HG9 HO9 hwN hgN hzn hzM
         go_wp2
         go_roundg (c - (p + 1))
         case measure => have := HG5.out; omega
         case rel =>
          have hl7 : (L.take k ++ L.drop (k + 1)).length = L.length - 1 := by simp only [List.length_append, List.length_take, List.length_drop]; omega
          refine ⟨p + 1, t.set p ((t.getD p []).set a x), L.take k ++ L.drop (k + 1), sd, cd, by omega, by go_num, by rw [hl7], ?_, ?_, by rw [List.length_set]; exact HTL5.out, HRI5.out.set (by have := HTL5.out; omega) ?_ ?_, HHQ.out, HTQ.out, HBQ.out, HGQ.out, hszQ⟩
          ·rw [hl7, show ints (L.take k ++ L.drop (k + 1)) = ints (L.take k) ++ ints (L.drop (k + 1)) by simp [ints]]
           exact HOQ.out
          ·rw [HX.out]
           exact HPT.out.step (by have := HTL5.out; omega) (by rw [HRL.out]; exact ha) hkL
          ·rw [HX.out]; exact (HPT.out.rng _ (oI hkL)).1
          ·rw [HX.out]; exact (HPT.out.rng _ (oI hkL)).2
        ·have hpc : p = c := by have := HG5.out; omega
         go_wp2
         go_roundg (letters - (a + 1))
         case measure => have := HG.out; omega
         case rel =>
          refine ⟨a + 1, t, by omega, by go_num, HTL5.out, HRI5.out, fun a' h1 q1 q2 h2 h3 e => ?_, HH5.out, HT5.out, HB5.out, HGR5.out⟩
          rcases Nat.lt_or_ge a' a with h4 | h4
          ·exact HPT.out.done a' h4 q1 q2 h2 h3 e
          ·have e5 : a' = a := by omega
           subst e5
           exact HPT.out.col q1 q2 (by omega) (by omega) e
    ·have hal : a = letters := by have := HG.out; omega
     have hH := HH2.out
     obtain ⟨d0, d1, d2, d3⟩ := zG hH.box
     obtain ⟨e0, e1, e2, e3⟩ := zG HB1R2.out
     have f0 := zE HB1R2.out 0; have f1 := zE HB1R2.out 1; have f2 := zE HB1R2.out 2; have f3 := zE HB1R2.out 3
     clear hH
     go_wp2
     refine bodyPost_ret (v := .agg #[.int .i64 letters, .int .i64 s, .slice sf fs.length cf, .slice sn t.length cn]) (by simp [results, Try.results48, go_sem, e0, e1, e2, e3]) rfl ?_
     obtain ⟨hsR, hgR⟩ := vD HB1R2.out (.int .i64 letters) (.int .i64 s) (.slice sf fs.length cf) (.slice sn t.length cn)
     have htb2 := HTR2.out.lt
     refine ⟨_, ⟨letters, s, fs, t⟩, q, rfl, ⟨P + 1, hs, sf, cf, sn, cn, rfl, by have := HPE.out; omega, (HH2.out.base (by have := HPE.out; omega)).far hgR HB1R2.out (by omega)⟩, HRI2.out.vd h1 h6 hn1 (by omega) HFL.out HTL2.out hs0 hs1, hn2, fun k hk a' ha2 => ?_, HTR2.out.kept hgR (fun k e => by have e : P = k := Option.some.inj e; omega), zA HGR2.out hgR (fun k e => by have e : P = k := Option.some.inj e; have := HPE.out; omega)⟩
     have hk : letters = k := Int.ofNat.inj hk
     exact HPE2.out a' (by omega)
def kC (l : List (List Nat)) : List Value := l.map fun u => .string (strOfNums (lets u))
theorem strsL_length (l : List (List Nat)) : (kC l).length = l.length := by simp [kC]
theorem Arr.strL {w : World} {g : Nat} {e : TypeId} {l : List (List Nat)} (h : Arr w g e (kC l)) (i : Nat) (hi : i < l.length) : w.cell? ⟨g, i, none⟩ = some (.string (strOfNums (lets (l.getD i [])))) := by
 rw [h.cell i (by rw [strsL_length]; exact hi)]
 simp [kC, List.getD_eq_getElem?_getD, hi]
theorem owns_lit {W : World} {e base g : Nat} {xs : List Value} {k : Nat} (h : W.heap[g]? = some (.cells xs.toArray e (0, 0))) (hb : base ≤ g) (hk : xs.length = k) (hm : k ≤ maxLen) : W.ownsRow base e 1 (.slice (some ⟨g, 0, none⟩) k k) k xs :=
 ⟨by omega, .inr ⟨g, k, xs.toArray, rfl, hb, h, Nat.le_refl _, hm, by simp [hk], by simp [← hk]⟩⟩
def wAt (letters most : Nat) : Nat → List (List Nat)
 | 0 => [[]]
 | i + 1 => if i < (wAt letters most i).length ∧ ((wAt letters most i).getD i []).length < most then wAt letters most i ++ (List.range letters).map (fun c => (wAt letters most i).getD i [] ++ [c]) else wAt letters most i
def wIn (letters most i a : Nat) : List (List Nat) := wAt letters most i ++ (List.range a).map (fun c => (wAt letters most i).getD i [] ++ [c])
def uT (letters most : Nat) : List (List Nat) := wAt letters most 7
theorem small2 {P : Nat → Nat → Prop} {x y : Nat} (h1 : 1 ≤ x) (h2 : x ≤ 2) (h3 : 1 ≤ y) (h4 : y ≤ 2) (h : P 1 1 ∧ P 1 2 ∧ P 2 1 ∧ P 2 2) : P x y := by
 rcases (by omega : x = 1 ∨ x = 2) with rfl | rfl <;> rcases (by omega : y = 1 ∨ y = 2) with rfl | rfl
 ·exact h.1
 ·exact h.2.1
 ·exact h.2.2.1
 ·exact h.2.2.2
theorem w_facts {letters most : Nat} (h1 : 1 ≤ letters) (h2 : letters ≤ 2) (h3 : 1 ≤ most) (h4 : most ≤ 2) : ∀ i, i ≤ 7 → (i < (wAt letters most i).length → i < 7) ∧ (¬ i < (wAt letters most i).length → wAt letters most i = uT letters most) ∧ (wAt letters most i).length ≤ 7 ∧ (∀ u ∈ wAt letters most i, u.length ≤ 2) :=
 small2 (P := fun letters most => ∀ i, i ≤ 7 → (i < (wAt letters most i).length → i < 7) ∧ (¬ i < (wAt letters most i).length → wAt letters most i = uT letters most) ∧ (wAt letters most i).length ≤ 7 ∧ (∀ u ∈ wAt letters most i, u.length ≤ 2)) h1 h2 h3 h4
  ⟨by decide +kernel, by decide +kernel, by decide +kernel, by decide +kernel⟩
theorem wIn_zero (letters most i : Nat) : wIn letters most i 0 = wAt letters most i := by simp [wIn]
theorem wIn_succ (letters most i a : Nat) : wIn letters most i (a + 1) = wIn letters most i a ++ [(wAt letters most i).getD i [] ++ [a]] := by simp [wIn, List.range_succ]
theorem wIn_length (letters most i a : Nat) : (wIn letters most i a).length = (wAt letters most i).length + a := by simp [wIn]
theorem wAt_step {letters most i : Nat} (hi : i < (wAt letters most i).length) (h : ((wAt letters most i).getD i []).length < most) : wAt letters most (i + 1) = wIn letters most i letters := by rw [wAt, if_pos ⟨hi, h⟩]; rfl
theorem wAt_stay {letters most i : Nat} (h : ¬ ((wAt letters most i).getD i []).length < most) : wAt letters most (i + 1) = wAt letters most i := by rw [wAt, if_neg (fun h' => h h'.2)]
theorem wIn_get {letters most i a : Nat} (h : i < (wAt letters most i).length) : (wIn letters most i a).getD i [] = (wAt letters most i).getD i [] := by
 simp [wIn, List.getD_eq_getElem?_getD, List.getElem?_append_left h]
set_option maxRecDepth 100000 in
set_option maxHeartbeats 1000000 in
theorem mwords_any (w : World) (letters most : Nat) (h1 : 1 ≤ letters) (h2 : letters ≤ 2) (h3 : 1 ≤ most) (h4 : most ≤ 2) :
  Calls Try.prog 22 #[.int .i64 (letters : Int), .int .i64 (most : Int)] w fun e w' =>
   ∃ sa sc, e = .returned (.slice sa (uT letters most).length sc) ∧ w'.ownsRow w.heap.size 9 1 (.slice sa (uT letters most).length sc) (uT letters most).length (kC (uT letters most)) ∧ w.grownBy w' none := by
 have hF := w_facts h1 h2 h3 h4
 have HF := Kh hF
 clear hF
 obtain ⟨P, hP⟩ : ∃ P, P = w.heap.size := ⟨_, rfl⟩
 have HPE := Kh hP
 go_enter Try.func22, Try.ntmps22
 go_upto_region 2 with fail
 have hb := heap_alloc_new w (.cells #[.string ⟨#[]⟩] 9)
 have hg := World.grownBy_alloc w (.cells #[.string ⟨#[]⟩] 9) none
 have ho : (w.alloc (.cells #[.string ⟨#[]⟩] 9)).ownsRow w.heap.size 9 1 (.slice (some ⟨w.heap.size, 0, none⟩) 1 1) 1 (kC [[]]) := owns_lit hb (Nat.le_refl _) rfl (by unfold maxLen; omega)
 have hsz := zJ w (.cells #[.string ⟨#[]⟩] 9)
 rw [← hP] at ho hb hsz ⊢
 have HO := Kh ho; have HG := Kh hg; have HW1 := Kh (wIn_zero letters most 0)
 clear ho hb hg hsz hP
 obtain ⟨w1, hw1⟩ : ∃ w1, w1 = w.alloc (.cells #[.string ⟨#[]⟩] 9) := ⟨_, rfl⟩
 rw [← hw1] at HO HG ⊢
 clear hw1
 go_wp2
 go_loopg [5, 6, 7] 7 (fun gh lv i av wr => ∃ (q : Nat) (sa : Option Addr) (sc : Nat), gh + q = 7 ∧ i = .int .i64 q ∧ lv = .slice sa (wAt letters most q).length sc ∧ wr.ownsRow P 9 1 (.slice sa (wAt letters most q).length sc) (wAt letters most q).length (kC (wAt letters most q)) ∧ w.grownBy wr none)
 case atStart => exact ⟨0, some ⟨P, 0, none⟩, 1, rfl, rfl, rfl, HO.out, HG.out⟩
 case round =>
  obtain ⟨q, sa, sc, hg, rfl, rfl, hown, hgr⟩ := hrel
  obtain ⟨f1, f2, f3, f4⟩ := HF.out q (by omega)
  obtain ⟨m, hm⟩ : ∃ m, m = (wAt letters most q).length := ⟨_, rfl⟩
  have HM := Kh hm
  rw [← hm] at hown f1 f2 f3 ⊢
  have HG2 := Kh hg; have HOW := Kh hown; have HGR := Kh hgr
  clear hg hown hgr hm HO HG HW1
  by_cases hq : q < m
  ·have hq' : (q : Int) < m := by omega
   have hq7 := f1 hq
   have hu2 : ((wAt letters most q).getD q []).length ≤ 2 := f4 _ (oI (by have := HM.out; omega))
   obtain ⟨U, hU⟩ : ∃ U, U = (wAt letters most q).getD q [] := ⟨_, rfl⟩
   rw [← hU] at hu2
   have HU := Kh hU
   clear f1 f2 f4 hU
   obtain ⟨X, hX⟩ : ∃ X, X = strOfNums (lets U) := ⟨_, rfl⟩
   have hxl : X.size = U.length := by rw [hX, strOfNums_size]; simp [lets]
   have HX := Kh hX; have HXL := Kh hxl
   obtain ⟨wo, hwo⟩ : ∃ wo, wo = wr := ⟨_, rfl⟩
   rw [← hwo] at HOW HGR ⊢
   clear hwo wr
   go_wp2
   go_loopg [5, 7] letters (fun gh lv av wr => ∃ (a : Nat) (sb : Option Addr) (sd : Nat), gh + a = letters ∧ av = .int .i64 a ∧ lv = .slice sb (m + a) sd ∧ wr.ownsRow P 9 1 (.slice sb (m + a) sd) (m + a) (kC (wIn letters most q a)) ∧ w.grownBy wr none ∧ (most ≤ U.length → a = 0))
   case atStart => exact ⟨0, sa, sc, rfl, rfl, rfl, by rw [wIn_zero]; exact HOW.out, HGR.out, fun _ => rfl⟩
   case round =>
    obtain ⟨a, sb, sd, hg, rfl, rfl, hown, hgr, hz⟩ := hrel
    obtain ⟨kb, rfl, hc1, hc2, harr⟩ := xJ hown (by omega)
    have hcell := harr.strL q (by rw [wIn_length]; have := HM.out; omega)
    rw [wIn_get (by have := HM.out; omega), ← HU.out, ← HX.out] at hcell
    have hmd : (q : Int) < (m : Int) + (a : Int) := by omega
    have hmd2 : q < m + a := by omega
    have HG3 := Kh hg; have HOW3 := Kh hown; have HGR3 := Kh hgr; have HZ := Kh hz
    have hc2' : sd ≤ 9223372036854775807 := by unfold maxLen at hc2; omega
    clear hg hown hgr hz harr hc2 hX hxl
    by_cases ha : a < letters
    ·have ha' : (a : Int) < letters := by omega
     by_cases hu : X.size < most
     ·have hu' : (X.size : Int) < most := by omega
      have h97 : IntKind.i64.wrap (97 + (a : Int)) = 97 + (a : Int) := IntWalk.i64_in _ (by omega)
      have hby : IntKind.u8.wrap (97 + (a : Int)) = 97 + (a : Int) := IntWalk.u8_in _ (by omega)
      obtain ⟨Y, hY⟩ : ∃ Y, Y = strOfNums [97 + (a : Int)] := ⟨_, rfl⟩
      have hcv : ∀ (W : World) (g : Nat), W.cell? ⟨g, 0, none⟩ = some (.int .u8 (97 + (a : Int))) → (convert 106 9 (.slice (some ⟨g, 0, none⟩) 1 1)).run Try.prog W = .ok (.string Y) W := fun W g h => by rw [hY]; exact jD 106 5 Try.underlying106 Try.underlying5 9 Try.underlying9 h
      have hcc : ∀ W : World, (Op.stringOp .add X Y).run Try.prog W = .ok (.string (X ++ Y)) W := fun W => run_string_add_sum W X Y (by
       rw [hY, strOfNums_size]; simp; omega)
      have HXY : Hid (X ++ Y = strOfNums (lets (U ++ [a]))) := Kh (by rw [HX.out, hY, strs_cat]; simp [lets])
      clear hY
      obtain ⟨w5, hw5⟩ : ∃ w5, w5 = wr.drew := ⟨_, rfl⟩
      have hg5 : wr.grownBy w5 none := by rw [hw5]; exact zP wr none
      have HW5 := Kh hw5
      have HO5 := Kh (yI HOW3.out hg5 (by simp)); have HG5 := Kh (zA HGR3.out hg5 (by simp))
      have C := Kh (zQ hcell hg5)
      clear hw5 hg5 HOW3 HGR3
      go_upto_region 8 with fail
      clear hcell
      refine wp_region_noPanic ?_
      refine wC (G := uS 10 (fun _ => True) (fun W => W.cell? ⟨kb, q, none⟩ = some (.string X))) (by kernel_rfl) ?_
      rw [← HW5.out]
      refine takeC (i := 0) (v := ?_) rfl rfl (Or.inl ⟨by rfl, ?_⟩) ⟨trivial, fun _ => C.out⟩ ?_
      rotate_left
      ·(intro wz hz; (try dsimp only at hz); go_simp; (try with_reducible rfl))
      try simp only [Act.put, sPa, sPb, sPc]
      refine takeC (i := 1) (v := ?_) rfl rfl (Or.inl ⟨by rfl, ?_⟩) ⟨trivial, fun _ => C.out⟩ ?_
      rotate_left
      ·(intro wz hz; (try dsimp only at hz); go_simp; (try with_reducible rfl))
      try simp only [Act.put, sPa, sPb, sPc]
      refine takeC (i := 2) (v := ?_) rfl rfl (Or.inl ⟨by rfl, ?_⟩) ⟨trivial, fun _ => C.out⟩ ?_
      rotate_left
      ·(intro wz hz; (try dsimp only at hz); go_simp; (try with_reducible rfl))
      try simp only [Act.put, sPa, sPb, sPc]
      refine takeC (i := 3) (v := ?_) rfl rfl (Or.inl ⟨by rfl, ?_⟩) ⟨trivial, fun _ => C.out⟩ ?_
      rotate_left
      ·(intro wz hz; (try dsimp only at hz); go_simp; (try with_reducible rfl))
      try simp only [Act.put, sPa, sPb, sPc]
      refine takeD (i := 4) (v := ?_) rfl rfl (Or.inl ⟨by rfl, ?_⟩) ⟨trivial, fun _ => C.out⟩ ?_
      rotate_left
      ·(rintro wz ⟨-, hz⟩; (try dsimp only at hz); go_simp; (try with_reducible rfl))
      try simp only [Act.put, sPa, sPb, sPc]
      refine takeC (i := 5) (v := ?_) rfl rfl (Or.inl ⟨by rfl, ?_⟩) ⟨trivial, fun _ => C.out⟩ ?_
      rotate_left
      ·(intro wz hz; (try dsimp only at hz); go_simp; (try with_reducible rfl))
      try simp only [Act.put, sPa, sPb, sPc]
      refine takeC (i := 6) (v := ?_) rfl rfl (Or.inl ⟨by rfl, ?_⟩) ⟨trivial, fun _ => C.out⟩ ?_
      rotate_left
      ·(intro wz hz; (try dsimp only at hz); go_simp; (try with_reducible rfl))
      try simp only [Act.put, sPa, sPb, sPc]
      refine takeC (i := 7) (v := ?_) rfl rfl (Or.inl ⟨by rfl, ?_⟩) ⟨trivial, fun _ => C.out⟩ ?_
      rotate_left
      ·(intro wz hz; (try dsimp only at hz); go_simp; (try with_reducible rfl))
      try simp only [Act.put, sPa, sPb, sPc]
      refine oneG (i := 8) (by kernel_rfl) rfl (fun K hK => ?_)
      go_simp
      have hgn := heap_alloc_new w5 (.cells #[.int .u8 (97 + (a : Int))] 5)
      have hg6 := World.grownBy_alloc w5 (.cells #[.int .u8 (97 + (a : Int))] 5) none
      obtain ⟨g6, hg6e⟩ : ∃ g6, g6 = w5.heap.size := ⟨_, rfl⟩
      obtain ⟨w6, hw6⟩ : ∃ w6, w6 = w5.alloc (.cells #[.int .u8 (97 + (a : Int))] 5) := ⟨_, rfl⟩
      rw [← hg6e] at hgn ⊢
      rw [← hw6] at hgn hg6 ⊢
      have hb6 := zO hgn 0 (by simp)
      simp only [List.getElem_toArray, List.getElem_cons_zero] at hb6
      have HO6 := Kh (yI HO5.out hg6 (by simp)); have HG6 := Kh (zA HG5.out hg6 (by simp))
      have C6 := Kh (zQ C.out hg6)
      refine hK.out _ _ ⟨trivial, fun _ => C6.out⟩ ?_
      clear hK K hgn hg6 hg6e hw6 HO5 HG5 C
      try simp only [Act.put, sPa, sPb, sPc]
      refine oneG (i := 9) (by kernel_rfl) rfl (fun K hK => ?_)
      go_simp
      refine hK.out _ _ ⟨trivial, fun _ => C6.out⟩ ?_
      clear hK K
      try simp only [Act.put, sPa, sPb, sPc]
      refine oneG (i := 10) (by kernel_rfl) rfl (fun K hK => ?_)
      go_simp
      refine hK.out _ _ ⟨trivial, fun h => by simp at h⟩ ?_
      clear hK K
      try simp only [Act.put, sPa, sPb, sPc]
      refine oneG (i := 11) (by kernel_rfl) rfl (fun K hK => ?_)
      go_simp
      have hgn := heap_alloc_new w6 (.cells #[.string (X ++ Y)] 9)
      have hg7 := World.grownBy_alloc w6 (.cells #[.string (X ++ Y)] 9) none
      have ho7 := yI HO6.out hg7 (by simp)
      refine hK.out _ _ ⟨trivial, fun h => by simp at h⟩ ?_
      clear hK K
      try simp only [Act.put, sPa, sPb, sPc]
      have hsz7 : P ≤ w6.heap.size := by have := HG6.out.size; have := HPE.out; omega
      refine oneG (i := 12) (by kernel_rfl) rfl (fun K hK => ?_)
      refine pE rfl (.tmp 29) (.tmp 40) 26 rfl elem_string P _ _ _ rfl ho7 _ _ _ rfl hgn rfl ?g1 ?g2 ?g3 ?_
      case g1 => unfold maxLen; omega
      case g2 => omega
      case g3 => rw [zJ]; omega
      intro sa' sc' w8 hown8 hg8
      refine hK.out _ _ ⟨trivial, fun h => by simp at h⟩ ?_
      clear hK K
      try simp only [Act.put, sPa, sPb, sPc]
      refine oneG (i := 13) (by kernel_rfl) rfl (fun K hK => ?_)
      go_simp
      refine hK.out _ _ ⟨trivial, fun h => by simp at h⟩ ?_
      clear hK K
      try simp only [Act.put, sPa, sPb, sPc]
      refine kH (by kernel_rfl) ?_ _
      refine NoPanic.normal ?_
      have HO8 := Kh hown8
      have HG8 := Kh (zA (zA HG6.out hg7 (by simp)) hg8 (fun k e => by have := (ho7.lt k e).1; have := HPE.out; omega))
      clear hown8 hg8 hg7 ho7 hgn
      go_wp2
      go_roundg (letters - (a + 1))
      case measure => have := HG3.out; omega
      case rel =>
       refine ⟨a + 1, sa', sc', by omega, by go_num, by rw [Nat.add_assoc], ?_, HG8.out, by have := HXL.out; omega⟩
       rw [wIn_succ, ← HU.out, show kC (wIn letters most q a ++ [U ++ [a]]) = kC (wIn letters most q a) ++ [.string (X ++ Y)] by rw [HXY.out]; simp [kC], ← Nat.add_assoc]
       exact HO8.out
     ·have hu' : ¬ (X.size : Int) < most := by omega
      have ha0 : a = 0 := HZ.out (by have := HXL.out; omega)
      subst ha0
      have hst := wAt_stay (letters := letters) (most := most) (i := q) (by rw [← HU.out]; have := HXL.out; omega)
      have HST := Kh hst
      clear hst
      go_wp2
      go_roundg (7 - (q + 1))
      case measure => have := HG2.out; omega
      case rel =>
       refine ⟨q + 1, some ⟨kb, 0, none⟩, sd, by omega, by go_num, ?_, ?_, HGR3.out⟩
       ·rw [HST.out, ← HM.out]
       ·have := HOW3.out
        rw [wIn_zero] at this
        rw [HST.out, ← HM.out]; exact this
    ·have hal : a = letters := by have := HG3.out; omega
     subst hal
     have hlt : U.length < most := by
      rcases Nat.lt_or_ge U.length most with h | h
      ·exact h
      ·have := HZ.out h; omega
     have HST := Kh (wAt_step (letters := a) (most := most) (i := q) (by have := HM.out; omega) (by rw [← HU.out]; exact hlt))
     go_wp2
     go_roundg (7 - (q + 1))
     case measure => have := HG2.out; omega
     case rel =>
      have hl2 : (wAt a most (q + 1)).length = m + a := by rw [HST.out, wIn_length, ← HM.out]
      refine ⟨q + 1, some ⟨kb, 0, none⟩, sd, by omega, by go_num, by rw [hl2], ?_, HGR3.out⟩
      rw [hl2, HST.out]; exact HOW3.out
  ·have hq' : ¬ (q : Int) < m := by omega
   have HF2 := Kh (f2 hq)
   clear f1 f2 f3 f4
   go_wp2
   go_ret
   refine ⟨sa, sc, ?_, ?_, HGR.out⟩
   ·rw [← HF2.out, ← HM.out]; rfl
   ·rw [← HF2.out, ← HM.out, ← HPE.out]; exact HOW.out
def DefAt (WL : List (List Nat)) (W : List Nat) (a : Nat) (x : Int) : Prop := 0 ≤ x ∧ x < WL.length ∧ ∃ j, j ≤ W.length ∧ WL.getD x.toNat [] = (W ++ [a]).drop j ∧ ∀ j', j' < j → (W ++ [a]).drop j' ∉ WL
def DefD (m : DfaV) (n : Nat) : Prop := m.start = 0 ∧ ∀ k : Nat, m.letters = k → ∃ most, 1 ≤ most ∧ most ≤ 2 ∧ n = (uT k most).length ∧ ∀ q a, q < n → a < k → DefAt (uT k most) ((uT k most).getD q []) a (ent m.next q a)
theorem words_facts {letters most : Nat} (h1 : 1 ≤ letters) (h2 : letters ≤ 2) (h3 : 1 ≤ most) (h4 : most ≤ 2) : (uT letters most).length ≤ 7 ∧ 1 ≤ (uT letters most).length ∧ (∀ u ∈ uT letters most, u.length ≤ 2 ∧ ∀ c ∈ u, c < 2) ∧ ∀ a, a < letters → [a] ∈ uT letters most :=
 small2 (P := fun letters most => (uT letters most).length ≤ 7 ∧ 1 ≤ (uT letters most).length ∧ (∀ u ∈ uT letters most, u.length ≤ 2 ∧ ∀ c ∈ u, c < 2) ∧ ∀ a, a < letters → [a] ∈ uT letters most) h1 h2 h3 h4
  ⟨by decide +kernel, by decide +kernel, by decide +kernel, by decide +kernel⟩
theorem lets_inj {u v : List Nat} (hu : ∀ c ∈ u, c < 100) (hv : ∀ c ∈ v, c < 100) (h : strOfNums (lets u) = strOfNums (lets v)) : u = v := by
 have h2 : (strOfNums (lets u)).data.toList = (strOfNums (lets v)).data.toList := by rw [h]
 rw [strOfNums_data, strOfNums_data, lets, lets, List.map_map, List.map_map] at h2
 have key : ∀ (u v : List Nat), (∀ c ∈ u, c < 100) → (∀ c ∈ v, c < 100) → u.map ((fun (n : Int) => UInt8.ofNat n.toNat) ∘ fun (a : Nat) => 97 + (a : Int)) = v.map ((fun (n : Int) => UInt8.ofNat n.toNat) ∘ fun (a : Nat) => 97 + (a : Int)) → u = v := by
  intro u
  induction u with
  | nil => intro v _ _ h; cases v with
   | nil => rfl
   | cons => simp at h
  | cons x u ih =>
   intro v hu hv h
   cases v with
   | nil => simp at h
   | cons y v =>
    simp only [List.map_cons, List.cons.injEq, Function.comp] at h
    have hx := hu x List.mem_cons_self
    have hy := hv y List.mem_cons_self
    have e := congrArg UInt8.toNat h.1
    rw [UInt8.toNat_ofNat', UInt8.toNat_ofNat'] at e
    have e1 : ((97 + (x : Int)).toNat) % 2 ^ 8 = 97 + x := by omega
    have e2 : ((97 + (y : Int)).toNat) % 2 ^ 8 = 97 + y := by omega
    rw [e1, e2] at e
    have := ih v (fun c hc => hu c (List.mem_cons_of_mem _ hc)) (fun c hc => hv c (List.mem_cons_of_mem _ hc)) h.2
    rw [this, show x = y by omega]
 exact key u v hu hv h2
theorem bytes_same {a b : ByteArray} (h : a.toList = b.toList) : a = b := by
 rw [ByteArray.toList_eq, ByteArray.toList_eq] at h
 exact ByteArray.ext (Array.toList_inj.1 h)
theorem Arr.keptOwn {w w' : World} {g e e' base n : Nat} {xs ys : List Value} {v : Value} (h : Arr w g e xs) (ho : w.ownsRow base e' 1 v n ys) (hne : e' ≠ e) (hg : w.grownBy w' v.ownBlock) : Arr w' g e xs :=
 h.kept hg (fun er => by
  obtain ⟨cur, rest, hgc, _⟩ := h
  exact zS ho hgc hne er)
set_option maxRecDepth 100000 in
set_option maxHeartbeats 1000000 in
theorem mdef_any (B tb : Nat) (w : World) (letters : Nat) (h1 : 1 ≤ letters) (h2 : letters ≤ 2) (hT : xC B w tb) :
  Calls Try.prog 49 #[.pointer (some ⟨tb, 0, none⟩), .int .i64 (letters : Int)] w (mL DefD B tb w letters 7) := by
 have htb := hT.lt
 have hBt := hT.ge
 obtain ⟨wA, hWA⟩ : ∃ wA, wA = (w.alloc (.cells #[.int .i64 0, .int .i64 0, .slice none 0 0, .slice none 0 0] 42)).alloc (.cells #[.int .i64 letters, .int .i64 0, .slice none 0 0, .slice none 0 0] 42) := ⟨_, rfl⟩
 obtain ⟨hb1, hb2, hgA, hzA⟩ := rY w #[.int .i64 0, .int .i64 0, .slice none 0 0, .slice none 0 0] #[.int .i64 letters, .int .i64 0, .slice none 0 0, .slice none 0 0] 42
 rw [← hWA] at hb1 hb2 hgA hzA
 obtain ⟨P, hP⟩ : ∃ P, P = w.heap.size := ⟨_, rfl⟩
 have HPE := Kh hP
 rw [← hP] at hb1 hb2 hzA htb
 have hTA := hT.kept hgA (by simp)
 have HB1 := Kh hb1; have HB2 := Kh hb2; have HGA := Kh hgA; have HWA := Kh hWA; have HTA := Kh hTA
 clear hb1 hb2 hgA hWA hTA hT
 go_enter Try.func49, Try.ntmps49
 go_upto_region 2 with fail
 rw [← HWA.out, ← HPE.out]
 clear hP
 go_wp2_with fail
 refine (vB B tb _ _ (by omega) HTA.out).mono ?_
 rintro e w1 ⟨r, rfl, hr0, hr1, hT1, hg1⟩
 replace hr1 := hr1 (by omega)
 obtain ⟨most, rfl⟩ : ∃ n : Nat, r = (n : Int) - 1 := ⟨(r + 1).toNat, by omega⟩
 have hm1 : 1 ≤ most := by omega
 have hm2 : most ≤ 2 := by omega
 have hn0 : (1 : Int) + ((most : Int) - 1) = most := by omega
 have HT1 := Kh hT1; have HG1 := Kh hg1
 have HWF := Kh (words_facts h1 h2 hm1 hm2)
 clear hr0 hr1 hT1 hg1
 go_wp2_with fail
 refine (mwords_any w1 letters most h1 h2 hm1 hm2).mono ?_
 rintro e w2 ⟨sl, cl, rfl, hown, hg2⟩
 obtain ⟨WL, hWL⟩ : ∃ WL, WL = uT letters most := ⟨_, rfl⟩
 rw [← hWL] at hown HWF ⊢
 obtain ⟨N, hN⟩ : ∃ N, N = WL.length := ⟨_, rfl⟩
 have HNE := Kh hN
 have hN7 : N ≤ 7 := by rw [hN]; exact HWF.out.1
 have hN1 : 1 ≤ N := by rw [hN]; exact HWF.out.2.1
 rw [← hN] at hown ⊢
 obtain ⟨lb, rfl, hl1, hl2, hLA⟩ := xJ hown (by omega)
 have hlb := (hown.lt lb rfl).1
 have hz1 := HG1.out.size
 have hcl : cl ≤ 9223372036854775807 := by unfold maxLen at hl2; omega
 have HA2 := Kh hLA
 have hbo := zB (zB HB2.out HG1.out (by simp; omega)) hg2 (by simp)
 have hH2 : Half (P + 1) w2 (P + 1) letters 0 [] [] [] none 0 none 0 := ⟨hbo, World.ownsRow_nil _ _ _ _, World.ownsRow_nil _ _ _ _, OwnsT.nil⟩
 have H2 := Kh hH2
 have HB := Kh (zB (zB HB1.out HG1.out (by simp; omega)) hg2 (by simp))
 have HT2 := Kh (HT1.out.kept hg2 (by simp))
 have HG2 := Kh (zA (zF (zA (zL w (some tb)) HGA.out (by simp)) HG1.out) hg2 (by simp))
 have HWLE := Kh hWL
 clear hown hg2 hLA hbo hH2 HT1 HG1 hN hWL
 go_wp2
 go_loopg [8, 9, 10, 11, 12, 13, 14, 24] N (fun gh v8 v9 v10 v11 v12 v13 v14 i wr => ∃ (q : Nat) (fs : List Bool) (t : List (List Int)) (hs : List Value) (sf : Option Addr) (cf : Nat) (sn : Option Addr) (cn : Nat), gh + q = N ∧ i = .int .i64 q ∧ fs.length = q ∧ t.length = q ∧ sW t N letters ∧ (∀ q' a, q' < q → a < letters → DefAt WL (WL.getD q' []) a (ent t q' a)) ∧ Half (P + 1) wr (P + 1) letters 0 fs t hs sf cf sn cn ∧ xC B wr tb ∧ wr.heap[P]? = some (.cells #[.int .i64 0, .int .i64 0, .slice none 0 0, .slice none 0 0] 42 (0, 0)) ∧ Arr wr lb 9 (kC WL) ∧ w.grownBy wr (some tb))
 case atStart => exact ⟨0, [], [], [], none, 0, none, 0, by omega, rfl, rfl, rfl, (fun r hr => by simp at hr), (fun q' a h => by omega), H2.out, HT2.out, HB.out, HA2.out, HG2.out⟩
 case round =>
  obtain ⟨q, fs, t, hs, sf, cf, sn, cn, hg, rfl, rfl, htl, hri, hdf, hH, hTr, hb1r, hAr, hgr⟩ := hrel
  have HG := Kh hg; have HH := Kh hH; have HTR := Kh hTr; have HB1R := Kh hb1r; have HGR := Kh hgr; have HRI := Kh hri; have HAR := Kh hAr; have HDF := Kh hdf; have HTL := Kh htl
  clear hg hH hTr hb1r hgr hri hAr hdf htl H2 HT2 HB HA2 HG2
  by_cases hq : fs.length < N
  ·have hq' : (fs.length : Int) < N := by omega
   have hcw := HAR.out.strL fs.length (by rw [← HNE.out]; exact hq)
   obtain ⟨W, hW⟩ : ∃ W, W = WL.getD fs.length [] := ⟨_, rfl⟩
   rw [← hW] at hcw
   obtain ⟨X, hX⟩ : ∃ X, X = strOfNums (lets W) := ⟨_, rfl⟩
   rw [← hX] at hcw
   have HWE := Kh hW; have HX := Kh hX
   clear hX hW
   obtain ⟨w5, hw5⟩ : ∃ w5, w5 = wr.drew := ⟨_, rfl⟩
   have hg5 : wr.grownBy w5 none := by rw [hw5]; exact zP wr none
   have HW5 := Kh hw5
   have HH5 := Kh (HH.out.grow hg5); have HT5 := Kh (HTR.out.kept hg5 (by simp)); have HG5 := Kh (zA HGR.out hg5 (by simp)); have HB5 := Kh (zB HB1R.out hg5 (by simp)); have HA5 := Kh (HAR.out.kept hg5 (by simp))
   obtain ⟨d0, d1, d2, d3⟩ := zG HH5.out.box
   have C2 := Kh d2
   clear hw5 hg5 d0 d1 d2 d3 HH HTR HGR HB1R HAR
   go_upto_region 6 with fail
   clear hcw
   refine wp_region_noPanic ?_
   refine wC (G := uS 8 (fun _ => True) (fun W => W.cell? ⟨P + 1, 2, none⟩ = some (.slice sf fs.length cf))) (by kernel_rfl) ?_
   rw [← HW5.out]
   refine takeC (i := 0) (v := ?_) rfl rfl (Or.inl ⟨by rfl, ?_⟩) ⟨trivial, fun _ => C2.out⟩ ?_
   rotate_left
   ·(intro wz hz; (try dsimp only at hz); go_simp; (try with_reducible rfl))
   try simp only [Act.put, sPa, sPb, sPc]
   refine takeD (i := 1) (v := ?_) rfl rfl (Or.inl ⟨by rfl, ?_⟩) ⟨trivial, fun _ => C2.out⟩ ?_
   rotate_left
   ·(rintro wz ⟨-, hz⟩; (try dsimp only at hz); go_simp; (try with_reducible rfl))
   try simp only [Act.put, sPa, sPb, sPc]
   refine takeC (i := 2) (v := ?_) rfl rfl (Or.inl ⟨by rfl, ?_⟩) ⟨trivial, fun _ => C2.out⟩ ?_
   rotate_left
   ·(intro wz hz; (try dsimp only at hz); go_simp; (try with_reducible rfl))
   try simp only [Act.put, sPa, sPb, sPc]
   refine oneG (i := 3) (by kernel_rfl) rfl (fun K hK => ?_)
   go_simp
   go_at_call 15
   refine (vB B tb _ _ (by omega) HT5.out).mono ?_
   rintro e w6 ⟨b, rfl, hb0, hb1, hT6, hg6⟩
   have hH6 := HH5.out.tape HT5.out hg6
   obtain ⟨d0, d1, d2, d3⟩ := zG hH6.box
   have C2 := Kh d2
   refine hK.out _ _ ⟨trivial, fun _ => C2.out⟩ ?_
   clear hK K d0 d1 d2 d3
   try simp only [Act.put, sPa, sPb, sPc]
   refine takeC (i := 4) (v := ?_) rfl rfl (Or.inl ⟨by rfl, ?_⟩) ⟨trivial, fun _ => C2.out⟩ ?_
   rotate_left
   ·(intro wz hz; (try dsimp only at hz); go_simp; (try with_reducible rfl))
   try simp only [Act.put, sPa, sPb, sPc]
   refine oneG (i := 5) (by kernel_rfl) rfl (fun K hK => ?_)
   go_simp
   have hH7 := hH6.grow (World.grownBy_alloc w6 (.cells #[.bool (decide (b = 1))] 4) none)
   have hgn := heap_alloc_new w6 (.cells #[.bool (decide (b = 1))] 4)
   obtain ⟨d0, d1, d2, d3⟩ := zG hH7.box
   refine hK.out _ _ ⟨trivial, fun _ => d2⟩ ?_
   clear hK K d0 d1 d2 d3
   try simp only [Act.put, sPa, sPb, sPc]
   have hz7 : P + 2 ≤ w6.heap.size := by have := zN hH6.box; omega
   refine oneG (i := 6) (by kernel_rfl) rfl (fun K hK => ?_)
   refine pE rfl (.tmp 29) (.tmp 33) 39 rfl qC (P + 1) _ _ _ rfl hH7.ownF _ _ _ rfl hgn rfl ?g1 ?g2 ?g3 ?_
   case g1 => unfold maxLen; omega
   case g2 => omega
   case g3 => rw [zJ]; omega
   intro sa' sc' w8 hown8 hg8
   have hbx := zB hH7.box hg8 (fun e => zS hH7.ownF hH7.box (by decide) e)
   obtain ⟨d0, d1, d2, d3⟩ := zG hbx
   have f2 := zE hbx 2
   refine hK.out _ _ ⟨trivial, fun _ => d2⟩ ?_
   clear hK K
   try simp only [Act.put, sPa, sPb, sPc]
   have C2 := Kh d2
   refine takeC (i := 7) (v := ?_) rfl rfl (Or.inl ⟨by rfl, ?_⟩) ⟨trivial, fun _ => C2.out⟩ ?_
   rotate_left
   ·(intro wz hz; (try dsimp only at hz); go_simp; (try with_reducible rfl))
   try simp only [Act.put, sPa, sPb, sPc]
   refine oneG (i := 8) (by kernel_rfl) rfl (fun K hK => ?_)
   go_simp
   refine hK.out _ _ ⟨trivial, fun h => by simp at h⟩ ?_
   clear hK K d0 d1 d2 d3 f2 hbx
   try simp only [Act.put, sPa, sPb, sPc]
   refine kH (by kernel_rfl) ?_ _
   refine NoPanic.normal ?_
   obtain ⟨hF, hgF⟩ := hH7.pushF hown8 hg8 rfl
   have hT9 := ((hT6.kept (World.grownBy_alloc w6 (.cells #[.bool (decide (b = 1))] 4) none) (by simp)).kept hg8 (fun k e => by have := (hH7.ownF.lt k e).1; omega)).kept (zD w8 ⟨P + 1, 2, none⟩ (.slice sa' (fs.length + 1) sc')) (fun k e => by have e : P + 1 = k := Option.some.inj e; omega)
   have hb9 := zB (zB (zB (zB HB5.out hg6 (by simp; omega)) (World.grownBy_alloc w6 (.cells #[.bool (decide (b = 1))] 4) none) (by simp)) hg8 (fun e => by have := (hH7.ownF.lt _ e).1; omega)) (zD w8 ⟨P + 1, 2, none⟩ (.slice sa' (fs.length + 1) sc')) (by simp)
   have hg9 : w.grownBy (w8.setCell ⟨P + 1, 2, none⟩ (.slice sa' (fs.length + 1) sc')) (some tb) := zA (zA (zA (zF HG5.out hg6) (World.grownBy_alloc w6 (.cells #[.bool (decide (b = 1))] 4) none) (by simp)) hg8 (fun k e => by have := (hH7.ownF.lt k e).1; have := HPE.out; omega)) (zD w8 ⟨P + 1, 2, none⟩ (.slice sa' (fs.length + 1) sc')) (fun k e => by have e : P + 1 = k := Option.some.inj e; have := HPE.out; omega)
   have hA9 := (((HA5.out.kept hg6 (by simp; omega)).kept (World.grownBy_alloc w6 (.cells #[.bool (decide (b = 1))] 4) none) (by simp)).keptOwn hH7.ownF (by decide) hg8).kept (zD w8 ⟨P + 1, 2, none⟩ (.slice sa' (fs.length + 1) sc')) (by simp; omega)
   obtain ⟨w9, hw9⟩ : ∃ w9, w9 = w8.setCell ⟨P + 1, 2, none⟩ (.slice sa' (fs.length + 1) sc') := ⟨_, rfl⟩
   rw [← hw9] at hF hT9 hb9 hg9 hA9 ⊢
   have HF := Kh hF; have HT9 := Kh hT9; have HB9 := Kh hb9; have HG9 := Kh hg9; have HA9 := Kh hA9
   clear hA9 hw9 hgF hF hT9 hb9 hg9 hown8 hg8 hgn hH7 hH6 hT6 hg6 C2 HH5 HT5 HG5 HB5 HW5
   have hWL2 : W.length ≤ 2 ∧ ∀ c ∈ W, c < 2 := by rw [HWE.out]; exact HWF.out.2.2.1 _ (oI (by rw [← HNE.out]; exact hq))
   have hW2 := hWL2.1
   have HW2 := Kh hWL2.2
   clear hWL2
   go_wp2
   go_loopg [9, 10, 11, 12, 13, 14] letters (fun gh ov i v11 v12 v13 v14 wx => ∃ (a : Nat) (row : List Int) (sr : Option Addr) (cr : Nat), gh + a = letters ∧ i = .int .i64 a ∧ row.length = a ∧ ov = .slice sr row.length cr ∧ (∀ a', a' < a → DefAt WL W a' (row.getD a' 0)) ∧ wx.ownsRow w9.heap.size 3 1 (.slice sr row.length cr) row.length (ints row) ∧ w9.grownBy wx none)
   case atStart => exact ⟨0, [], none, 0, by omega, rfl, rfl, rfl, (fun a' h => by omega), World.ownsRow_nil _ _ _ _, zL _ _⟩
   case round =>
    obtain ⟨a, row, sr, cr, hg, rfl, rfl, rfl, hrd, hown, hgx⟩ := hrel
    have HGA2 := Kh hg; have HOWR := Kh hown; have HGX := Kh hgx; have HRD := Kh hrd
    clear hg hown hgx hrd
    by_cases ha : row.length < letters
    ·have ha' : (row.length : Int) < letters := by omega
     have h97 : IntKind.i64.wrap (97 + (row.length : Int)) = 97 + (row.length : Int) := IntWalk.i64_in _ (by omega)
     have hby : IntKind.u8.wrap (97 + (row.length : Int)) = 97 + (row.length : Int) := IntWalk.u8_in _ (by omega)
     obtain ⟨Y, hY⟩ : ∃ Y, Y = strOfNums [97 + (row.length : Int)] := ⟨_, rfl⟩
     have hcv : ∀ (W : World) (g : Nat), W.cell? ⟨g, 0, none⟩ = some (.int .u8 (97 + (row.length : Int))) → (convert 106 9 (.slice (some ⟨g, 0, none⟩) 1 1)).run Try.prog W = .ok (.string Y) W := fun W g h => by rw [hY]; exact jD 106 5 Try.underlying106 Try.underlying5 9 Try.underlying9 h
     have hcc : ∀ W0 : World, (Op.stringOp .add X Y).run Try.prog W0 = .ok (.string (X ++ Y)) W0 := fun W0 => run_string_add_sum W0 X Y (by
      rw [hY, HX.out, strOfNums_size, strOfNums_size]; simp [lets]; omega)
     have HXY : Hid (X ++ Y = strOfNums (lets (W ++ [row.length]))) := Kh (by rw [HX.out, hY, strs_cat]; simp [lets])
     have hga := World.grownBy_alloc wr (.cells #[.int .u8 (97 + (row.length : Int))] 5) none
     have HOA := Kh (yI HOWR.out hga (by simp)); have HGB := Kh (zA HGX.out hga (by simp))
     clear hY hga
     go_wp2
     clear hcv hcc h97 hby
     obtain ⟨wb, hwb⟩ : ∃ wb, wb = wr.alloc (.cells #[.int .u8 (97 + (row.length : Int))] 5) := ⟨_, rfl⟩
     try rw [← hwb] at HOA HGB ⊢
     clear hwb
     have HV : Hid (∀ c ∈ W ++ [row.length], c < 100) := Kh (fun c hc => by
      rcases List.mem_append.1 hc with hc | hc
      ·have := HW2.out c hc; omega
      ·rw [List.mem_singleton] at hc; omega)
     have HVL : Hid ((W ++ [row.length]).length = W.length + 1) := Kh (by simp)
     have HLAST : Hid ((W ++ [row.length]).drop W.length ∈ WL) := Kh (by
      rw [List.drop_append_of_le_length (Nat.le_refl _), List.drop_length, List.nil_append]
      exact HWF.out.2.2.2 _ ha)
     obtain ⟨V, hV⟩ : ∃ V, V = W ++ [row.length] := ⟨_, rfl⟩
     rw [← hV] at HV HVL HXY HLAST
     have HVE := Kh hV
     clear hV
     have hsz9 := HGB.out.size
     go_loopg [11, 12, 13, 14] (W.length + 1) (fun gh v11 v12 v13 v14 wy => wy = wb ∧ ((∃ j, v12 = .int .i64 (-1) ∧ j ≤ W.length ∧ gh + j = W.length + 1 ∧ v11 = .string (strOfNums (lets (V.drop j))) ∧ ∀ j', j' < j → V.drop j' ∉ WL) ∨ (∃ (x : Nat) (y : ByteArray), v12 = .int .i64 (x : Int) ∧ v11 = .string y ∧ DefAt WL W row.length x)))
     case atStart => exact ⟨rfl, .inl ⟨0, rfl, by omega, by omega, by rw [HXY.out]; rfl, fun j' h => by omega⟩⟩
     case round =>
      obtain ⟨hwe, hst⟩ := hrel
      subst hwe
      rcases hst with ⟨j, rfl, hj, hgj, rfl, hno⟩ | ⟨x, y, rfl, rfl, hdef⟩
      ·have HGJ := Kh hgj; have HNO := Kh hno
       clear hgj hno
       obtain ⟨Z, hZ⟩ : ∃ Z, Z = strOfNums (lets (V.drop j)) := ⟨_, rfl⟩
       have hZs : Z.size = W.length + 1 - j := by rw [hZ, strOfNums_size]; simp [lets, HVL.out]
       rw [← hZ]
       have HZ := Kh hZ
       have hZ1 : 1 ≤ Z.size := by omega
       have hZ3 : Z.size ≤ 3 := by omega
       have HZS := Kh hZs
       clear hZ hZs
       go_wp2
       have HAC := Kh (HA9.out.kept HGB.out (by simp))
       go_loopg [12, 13, 14, 52] N (fun gh v12 v13 v14 i wz => wz = wr ∧ ∃ (k : Nat) (m : Int), gh + k = N ∧ i = .int .i64 k ∧ v12 = .int .i64 m ∧ ((m = -1 ∧ ∀ k', k' < k → WL.getD k' [] ≠ V.drop j) ∨ (0 ≤ m ∧ m < N ∧ WL.getD m.toNat [] = V.drop j)))
       case atStart => exact ⟨rfl, 0, -1, by omega, rfl, rfl, .inl ⟨rfl, fun k' h => by omega⟩⟩
       case round =>
        obtain ⟨hwe, k, m, hgk, rfl, rfl, hm⟩ := hrel
        subst hwe
        have HGK := Kh hgk; have HM := Kh hm
        clear hgk hm
        by_cases hk : k < N
        ·have hk' : (k : Int) < N := by omega
         have hck := HAC.out.strL k (by rw [← HNE.out]; exact hk)
         obtain ⟨K2, hK2⟩ : ∃ K2, K2 = strOfNums (lets (WL.getD k [])) := ⟨_, rfl⟩
         rw [← hK2] at hck
         have HK2 := Kh hK2
         clear hK2
         by_cases hx : WL.getD k [] = V.drop j
         ·have heq := Kh hx
          have hbq : (K2.toList == Z.toList) = true := by rw [HK2.out, HZ.out, hx]; simp
          clear hx
          go_wp2
          go_roundg (N - (k + 1))
          case measure => have := HGK.out; omega
          case rel => exact ⟨rfl, k + 1, k, by omega, by go_num, rfl, .inr ⟨by omega, by omega, by simpa using heq.out⟩⟩
         ·have hne := Kh hx
          have hbq : (K2.toList == Z.toList) = false := by
           rw [beq_eq_false_iff_ne]
           intro e
           refine hx (lets_inj (fun c hc => ?_) (fun c hc => HV.out c (List.mem_of_mem_drop hc)) (by rw [← HK2.out, ← HZ.out]; exact bytes_same e))
           have := (HWF.out.2.2.1 _ (oI (d := []) (by rw [← HNE.out]; exact hk))).2 c hc
           omega
          clear hx
          go_wp2
          go_roundg (N - (k + 1))
          case measure => have := HGK.out; omega
          case rel =>
           refine ⟨rfl, k + 1, m, by omega, by go_num, rfl, ?_⟩
           rcases HM.out with ⟨e1, e2⟩ | e1
           ·refine .inl ⟨e1, fun k' h => ?_⟩
            rcases Nat.lt_or_ge k' k with h2 | h2
            ·exact e2 k' h2
            ·have : k' = k := by omega
             subst this; exact hne.out
           ·exact .inr e1
        ·have hkN : k = N := by have := HGK.out; omega
         have HHM := Kh HM.out
         go_wp2
         have hcut : Hid (Z.extract 1 Z.size = strOfNums (lets (V.drop (j + 1)))) := Kh (by
          apply ByteArray.ext
          apply Array.toList_inj.1
          rw [HZ.out, ByteArray.data_extract, Array.toList_extract, strOfNums_data, strOfNums_data, List.extract_eq_take_drop, strOfNums_size]
          rw [List.take_of_length_le (by simp)]
          rw [show V.drop (j + 1) = (V.drop j).drop 1 by rw [List.drop_drop]]
          simp [lets, List.map_drop])
         rcases HHM.out with ⟨e1, e2⟩ | ⟨e1, e2, e3⟩
         ·go_roundg (W.length + 1 - (j + 1))
          case measure => have := HGJ.out; omega
          case rel =>
           have hnin : V.drop j ∉ WL := fun hm => by
            obtain ⟨k', hk', e4⟩ := List.getElem_of_mem hm
            exact e2 k' (by rw [hkN, HNE.out]; exact hk') (by rw [← e4]; simp [List.getD_eq_getElem?_getD, hk'])
           have hjW : j < W.length := by
            rcases Nat.lt_or_ge j W.length with h | h
            ·exact h
            ·have e5 : j = W.length := by omega
             rw [e5] at hnin
             exact absurd HLAST.out hnin
           exact ⟨rfl, .inl ⟨j + 1, by rw [e1], by omega, by omega, by rw [hcut.out], fun j' h => by
            rcases Nat.lt_or_ge j' j with h2 | h2
            ·exact HNO.out j' h2
            ·have : j' = j := by omega
             subst this; exact hnin⟩⟩
         ·go_roundg (W.length + 1 - (j + 1))
          case measure => have := HGJ.out; omega
          case rel =>
           refine ⟨rfl, .inr ⟨m.toNat, Z.extract 1 Z.size, by rw [Int.toNat_of_nonneg e1], rfl, ?_⟩⟩
           rw [Int.toNat_of_nonneg e1]
           exact ⟨e1, by rw [← HNE.out]; exact e2, j, hj, by rw [e3, HVE.out], fun j' h => by rw [← HVE.out]; exact HNO.out j' h⟩
      ·have HDX := Kh hdef
       have hx0 : ¬ (x : Int) = -1 := by omega
       clear hdef
       go_wp2_with (first | (at_builtin; refine app1 rfl _ _ _ rfl xP w9.heap.size _ row.length (ints row) rfl HOA.out _ rfl rfl ?c1 ?c2 ?c3 ?_) | fail)
       case c1 => unfold maxLen; omega
       case c2 => omega
       case c3 => exact hsz9
       intro sr' cr' w10 hown10 hg10 hlt10
       have HO10 := Kh hown10
       have HG10 := Kh (zA HGB.out hg10 (fun k e => (HOA.out.lt k e).1))
       clear hown10 hg10
       go_wp2
       go_roundg (letters - (row.length + 1))
       case measure => have := HGA2.out; omega
       case rel =>
        refine ⟨row.length + 1, row ++ [(x : Int)], sr', cr', by omega, by go_num, by simp, by simp, fun a' h => ?_, ?_, HG10.out⟩
        ·rcases Nat.lt_or_ge a' row.length with h2 | h2
         ·rw [List.getD_eq_getElem?_getD, List.getElem?_append_left h2, ← List.getD_eq_getElem?_getD]
          exact HRD.out a' h2
         ·have e : a' = row.length := by omega
          subst e
          rw [List.getD_eq_getElem?_getD, List.getElem?_append_right (Nat.le_refl _)]
          simpa using HDX.out
        ·rw [show ints (row ++ [(x : Int)]) = ints row ++ [.int .i64 (x : Int)] by simp [ints], List.length_append, List.length_singleton]
         exact HO10.out
    ·have hrn : row.length = letters := by have := HGA2.out; omega
     have hH := HF.out.grow HGX.out
     have HTX := Kh (HT9.out.kept HGX.out (by simp))
     have HAX := Kh (HA9.out.kept HGX.out (by simp))
     have hzp : P + 1 ≤ w9.heap.size := Nat.le_of_lt (zN HF.out.box)
     have hrow := xB HOWR.out hzp
     have hdis : ∀ i (hi : i < hs.length), ∀ k, hs[i].ownBlock = some k → (Value.slice sr row.length cr).ownBlock ≠ some k := fun i hi k hk e => by
      have h1 := (HF.out.rows.lt hi hk).2
      have h2 := (HOWR.out.lt k e).1
      omega
     have HDIS := Kh hdis
     obtain ⟨d0, d1, d2, d3⟩ := zG hH.box
     have hzx := zN hH.box
     have hlt9 := HT9.out.lt
     have HHX := Kh hH; have HRW := Kh hrow; have HRN := Kh hrn
     have HGW := Kh (zA HG9.out HGX.out (by simp)); have HBX := Kh (zB HB9.out HGX.out (by simp))
     clear hH hrow hrn hdis d0 d1 d2 HOWR HGX HF HT9 HG9 HB9
     have HON := Kh HHX.out.ownN
     go_wp2_with (first | (at_builtin; refine app1 rfl _ _ _ rfl qY (P + 1) _ t.length hs rfl HON.out _ rfl rfl ?c1 ?c2 ?c3 ?_) | fail)
     case c1 => have := HTL.out; unfold maxLen; omega
     case c2 => have := HTL.out; omega
     case c3 => omega
     intro sn' cn' w11 hown11 hg11 hlt11
     have hbx := zB HHX.out.box hg11 (fun e => zS HHX.out.ownN HHX.out.box (by decide) e)
     obtain ⟨d0, d1, d2, d3⟩ := zG hbx
     have f2 := zE hbx 3
     obtain ⟨hN, hgN⟩ := HHX.out.pushN hown11 hg11 HRW.out HDIS.out rfl
     have hTN := (HTX.out.kept hg11 (fun k e => by have := (HHX.out.ownN.lt k e).1; omega)).kept (zD w11 ⟨P + 1, 3, none⟩ (.slice sn' (t.length + 1) cn')) (fun k e => by have e : P + 1 = k := Option.some.inj e; omega)
     have hbN := zB (zB HBX.out hg11 (fun e => by have := (HHX.out.ownN.lt _ e).1; omega)) (zD w11 ⟨P + 1, 3, none⟩ (.slice sn' (t.length + 1) cn')) (by simp)
     have hAN := (HAX.out.keptOwn HHX.out.ownN (by decide) hg11).kept (zD w11 ⟨P + 1, 3, none⟩ (.slice sn' (t.length + 1) cn')) (by simp; omega)
     have hgN2 : w.grownBy (w11.setCell ⟨P + 1, 3, none⟩ (.slice sn' (t.length + 1) cn')) (some tb) := zA (zA HGW.out hg11 (fun k e => by have := (HHX.out.ownN.lt k e).1; have := HPE.out; omega)) (zD w11 ⟨P + 1, 3, none⟩ (.slice sn' (t.length + 1) cn')) (fun k e => by have e : P + 1 = k := Option.some.inj e; have := HPE.out; omega)
     have HGK := Kh hN; have HTN2 := Kh hTN; have HBN2 := Kh hbN; have HGN2 := Kh hgN2; have HAN2 := Kh hAN
     clear hgN hbx hN hTN hbN hgN2 hAN hown11 hg11
     go_wp2
     go_roundg (N - (fs.length + 1))
     case measure => have := HG.out; omega
     case rel =>
      refine ⟨fs.length + 1, fs ++ [decide (b = 1)], t ++ [row], _, sa', sc', sn', cn', by omega, by go_num, by simp, by simp [HTL.out], ?_, ?_, HGK.out, HTN2.out, HBN2.out, HAN2.out, HGN2.out⟩
      ·intro r hr
       rcases List.mem_append.1 hr with hr | hr
       ·exact HRI.out r hr
       ·rw [List.mem_singleton] at hr
        subst hr
        refine ⟨HRN.out, fun x hx => ?_⟩
        obtain ⟨a, ha3, rfl⟩ := List.getElem_of_mem hx
        have hd := HRD.out a ha3
        have e : r.getD a 0 = r[a] := by simp [List.getD_eq_getElem?_getD, ha3]
        rw [e] at hd
        exact ⟨hd.1, by rw [HNE.out]; exact hd.2.1⟩
      ·intro q' a h3 h4
       unfold ent
       rcases Nat.lt_or_ge q' fs.length with h5 | h5
       ·have h6 : q' < t.length := by rw [HTL.out]; exact h5
        rw [List.getD_eq_getElem?_getD (l := t ++ [row]), List.getElem?_append_left h6, ← List.getD_eq_getElem?_getD]
        exact HDF.out q' a h5 h4
       ·have h6 : q' = t.length := by have := HTL.out; omega
        subst h6
        rw [List.getD_eq_getElem?_getD (l := t ++ [row]), List.getElem?_append_right (Nat.le_refl _), HTL.out, ← HWE.out]
        simpa using HRD.out a (by rw [HRN.out]; exact h4)
  ·have hfn : fs.length = N := by have := HG.out; omega
   have hB := HH.out
   have htl := HTL.out
   have HFN := Kh hfn; have HBU := Kh hB
   obtain ⟨d0, d1, d2, d3⟩ := zG HH.out.box
   obtain ⟨e0, e1, e2, e3⟩ := zG HB1R.out
   have f0 := zE HB1R.out 0; have f1 := zE HB1R.out 1; have f2 := zE HB1R.out 2; have f3 := zE HB1R.out 3
   clear hB hfn htl
   go_wp2
   refine bodyPost_ret (v := .agg #[.int .i64 letters, .int .i64 0, .slice sf fs.length cf, .slice sn t.length cn]) (by simp [results, Try.results49, go_sem, e0, e1, e2, e3]) rfl ?_
   obtain ⟨hsR, hgR⟩ := vD HB1R.out (.int .i64 letters) (.int .i64 0) (.slice sf fs.length cf) (.slice sn t.length cn)
   have htb2 := HTR.out.lt
   have hfn := HFN.out; have htl := HTL.out
   refine ⟨_, ⟨letters, 0, fs, t⟩, N, rfl, ⟨P + 1, hs, sf, cf, sn, cn, rfl, by have := HPE.out; omega, (HBU.out.base (by have := HPE.out; omega)).far hgR HB1R.out (by omega)⟩, HRI.out.vd h1 (by omega) hN1 (by omega) hfn (htl.trans hfn) (by omega) (by omega), hN7, ⟨rfl, fun k hk => ?_⟩, HTR.out.kept hgR (fun k e => by have e : P = k := Option.some.inj e; omega), zA HGR.out hgR (fun k e => by have e : P = k := Option.some.inj e; have := HPE.out; omega)⟩
   have hk : letters = k := Int.ofNat.inj hk
   subst hk
   refine ⟨most, hm1, hm2, by rw [← HWLE.out]; exact HNE.out, fun q a hq3 ha3 => ?_⟩
   rw [← HWLE.out]
   exact HDF.out q a (by rw [hfn]; exact hq3) ha3
def AnyD (m : DfaV) (n : Nat) : Prop := OrdD m n ∨ PermD m n ∨ DefD m n ∨ True
theorem DealtDfa.r {B tb : Nat} {w : World} {letters most : Nat} {e : Ending} {w' : World} (h : DealtDfa B tb w letters most e w') : mL (fun _ _ => True) B tb w letters most e w' := by
 obtain ⟨v, m, n, h1, h2, h3, h4, h6, h7⟩ := h
 exact ⟨v, m, n, h1, h2, h3, h4, trivial, h6, h7⟩
set_option maxRecDepth 100000 in
set_option maxHeartbeats 4000000 in
theorem many_any (B tb : Nat) (w : World) (letters most : Nat) (h1 : 1 ≤ letters) (h2 : letters ≤ 2) (hm1 : 1 ≤ most) (hm : most ≤ 500) (hT : xC B w tb) :
  Calls Try.prog 17 #[.pointer (some ⟨tb, 0, none⟩), .int .i64 (letters : Int), .int .i64 (most : Int)] w (mL AnyD B tb w letters 500) := by
 have htb := hT.lt
 have hBt := hT.ge
 obtain ⟨P, hP⟩ : ∃ P, P = w.heap.size := ⟨_, rfl⟩
 have HPE := Kh hP
 obtain ⟨wA, hWA⟩ : ∃ wA, wA = w.alloc (.cells #[.int .i64 0, .int .i64 0, .slice none 0 0, .slice none 0 0] 42) := ⟨_, rfl⟩
 have hbA := heap_alloc_new w (.cells #[.int .i64 0, .int .i64 0, .slice none 0 0, .slice none 0 0] 42)
 have hgA := World.grownBy_alloc w (.cells #[.int .i64 0, .int .i64 0, .slice none 0 0, .slice none 0 0] 42) none
 have hzA := zJ w (.cells #[.int .i64 0, .int .i64 0, .slice none 0 0, .slice none 0 0] 42)
 rw [← hWA] at hbA hgA hzA
 rw [← hP] at hbA hzA htb
 have HTA := Kh (hT.kept hgA (by simp))
 have HBA := Kh hbA; have HGA := Kh hgA; have HWA := Kh hWA
 clear hbA hgA hWA hT
 go_enter Try.func17, Try.ntmps17
 go_upto_region 1 with fail
 rw [← HWA.out, ← HPE.out]
 clear hP
 go_wp2_with fail
 refine (vB B tb _ _ (by omega) HTA.out).mono ?_
 rintro e w1 ⟨r, rfl, hr0, hr1, hT1, hg1⟩
 replace hr1 := hr1 (by omega)
 have HB1 := Kh (zB HBA.out hg1 (by simp; omega))
 have HG1 := Kh (zF (zA (zL w (some tb)) HGA.out (by simp)) hg1)
 have HT1 := Kh hT1
 have hz1 := hg1.size
 clear hT1 hg1 HTA HBA
 have fin : ∀ (R : DfaV → Nat → Prop) (mo : Nat) (e : Ending) (w2 : World), (∀ m n, R m n → AnyD m n) → mo ≤ 500 → mL R B tb w1 letters mo e w2 → ∃ (v : Value) (y0 y1 : Int) (y2 y3 : Option Addr) (n2 n3 c2 c3 : Nat), e = .returned v ∧ v = .agg #[.int .i64 y0, .int .i64 y1, .slice y2 n2 c2, .slice y3 n3 c3] ∧ w2.cell? ⟨P, 0, none⟩ = some (.int .i64 0) ∧ w2.cell? ⟨P, 1, none⟩ = some (.int .i64 0) ∧ w2.cell? ⟨P, 2, none⟩ = some (.slice none 0 0) ∧ w2.cell? ⟨P, 3, none⟩ = some (.slice none 0 0) ∧ (∀ k, w2.frozen? ⟨P, k, none⟩ = false) ∧ mL AnyD B tb w letters 500 (.returned v) ((((w2.setCell ⟨P, 0, none⟩ (.int .i64 y0)).setCell ⟨P, 1, none⟩ (.int .i64 y1)).setCell ⟨P, 2, none⟩ (.slice y2 n2 c2)).setCell ⟨P, 3, none⟩ (.slice y3 n3 c3)) := by
  intro R mo e w2 hR hmo h
  obtain ⟨v, m, n, rfl, ⟨o, hs, sf, cf, sn, cn, rfl, ho, hH⟩, hvd, hnm, hr, hT2, hg2⟩ := h
  have hb2 := zB HB1.out hg2 (by simp; omega)
  obtain ⟨d0, d1, d2, d3⟩ := zG hb2
  obtain ⟨hsR, hgR⟩ := vD hb2 (.int .i64 m.letters) (.int .i64 m.start) (.slice sf m.final.length cf) (.slice sn m.next.length cn)
  refine ⟨_, _, _, _, _, _, _, _, _, rfl, rfl, d0, d1, d2, d3, fun k => zE hb2 k, _, m, n, rfl, ⟨o, hs, sf, cf, sn, cn, rfl, by have := HPE.out; omega, (hH.base (by have := HPE.out; omega)).far hgR hb2 (by omega)⟩, hvd, by omega, hR m n hr, hT2.kept hgR (fun k e => by have e : P = k := Option.some.inj e; omega), zA (zF HG1.out hg2) hgR (fun k e => by have e : P = k := Option.some.inj e; have := HPE.out; omega)⟩
 have HFIN := Kh fin
 clear fin
 by_cases e1 : r = 1
 ·subst e1
  go_wp2_with fail
  refine (mord_any B tb w1 letters most h1 (by omega) hm1 hm HT1.out).mono ?_
  intro e w2 h
  obtain ⟨v, y0, y1, y2, y3, n2, n3, q2, q3, rfl, rfl, c0, c1, c2, c3, fz, hD⟩ := HFIN.out OrdD most e w2 (fun _ _ h => .inl h) hm h
  have f0 := fz 0; have f1 := fz 1; have f2 := fz 2; have f3 := fz 3
  have HD := Kh hD
  clear hD fz h
  go_wp2
  refine bodyPost_ret (v := .agg #[.int .i64 y0, .int .i64 y1, .slice y2 n2 q2, .slice y3 n3 q3]) (by simp [results, Try.results17, go_sem, c0, c1, c2, c3]) rfl ?_
  exact HD.out
 by_cases e2 : r = 2
 ·subst e2
  rcases Nat.lt_trichotomy most 4 with hm4 | hm4 | hm4
  ·have q1 : (most : Int) < 4 := by omega
   have q2 : ¬ (4 : Int) < most := by omega
   have q3 : (most : Int) ≤ 4 := by omega
   have hmn : min (most : Int) 4 = (most : Int) := by omega
   have HC := Kh (jR B tb w1 letters most h1 (by omega) hm1 hm HT1.out)
   go_wp2_with fail
   refine HC.out.mono ?_
   intro e w2 h
   obtain ⟨v, y0, y1, y2, y3, n2, n3, q2, q3, rfl, rfl, c0, c1, c2, c3, fz, hD⟩ := HFIN.out PermD most e w2 (fun _ _ h => .inr (.inl h)) (by omega) h
   have f0 := fz 0; have f1 := fz 1; have f2 := fz 2; have f3 := fz 3
   have HD := Kh hD
   clear hD fz h
   go_wp2
   refine bodyPost_ret (v := .agg #[.int .i64 y0, .int .i64 y1, .slice y2 n2 q2, .slice y3 n3 q3]) (by simp [results, Try.results17, go_sem, c0, c1, c2, c3]) rfl ?_
   exact HD.out
  ·subst hm4
   have hmn : min ((4 : Nat) : Int) 4 = (4 : Int) := by omega
   have HC : Hid (Calls Try.prog 48 #[.pointer (some ⟨tb, 0, none⟩), .int .i64 (letters : Int), .int .i64 4] w1 (mL PermD B tb w1 letters 4)) := Kh (jR B tb w1 letters 4 h1 (by omega) (by omega) (by omega) HT1.out)
   go_wp2_with fail
   refine HC.out.mono ?_
   intro e w2 h
   obtain ⟨v, y0, y1, y2, y3, n2, n3, q2, q3, rfl, rfl, c0, c1, c2, c3, fz, hD⟩ := HFIN.out PermD 4 e w2 (fun _ _ h => .inr (.inl h)) (by omega) h
   have f0 := fz 0; have f1 := fz 1; have f2 := fz 2; have f3 := fz 3
   have HD := Kh hD
   clear hD fz h
   go_wp2
   refine bodyPost_ret (v := .agg #[.int .i64 y0, .int .i64 y1, .slice y2 n2 q2, .slice y3 n3 q3]) (by simp [results, Try.results17, go_sem, c0, c1, c2, c3]) rfl ?_
   exact HD.out
  ·have q1 : ¬ (most : Int) < 4 := by omega
   have q3 : (4 : Int) < most := by omega
   have q4 : (4 : Int) ≤ most := by omega
   have q5 : ¬ (most : Int) ≤ 4 := by omega
   have hmn : min (most : Int) 4 = (4 : Int) := by omega
   have HC : Hid (Calls Try.prog 48 #[.pointer (some ⟨tb, 0, none⟩), .int .i64 (letters : Int), .int .i64 4] w1 (mL PermD B tb w1 letters 4)) := Kh (jR B tb w1 letters 4 h1 (by omega) (by omega) (by omega) HT1.out)
   go_wp2_with fail
   refine HC.out.mono ?_
   intro e w2 h
   obtain ⟨v, y0, y1, y2, y3, n2, n3, q2, q3, rfl, rfl, c0, c1, c2, c3, fz, hD⟩ := HFIN.out PermD 4 e w2 (fun _ _ h => .inr (.inl h)) (by omega) h
   have f0 := fz 0; have f1 := fz 1; have f2 := fz 2; have f3 := fz 3
   have HD := Kh hD
   clear hD fz h
   go_wp2
   refine bodyPost_ret (v := .agg #[.int .i64 y0, .int .i64 y1, .slice y2 n2 q2, .slice y3 n3 q3]) (by simp [results, Try.results17, go_sem, c0, c1, c2, c3]) rfl ?_
   exact HD.out
 by_cases e3 : r = 3
 ·subst e3
  go_wp2_with fail
  refine (mdef_any B tb w1 letters h1 h2 HT1.out).mono ?_
  intro e w2 h
  obtain ⟨v, y0, y1, y2, y3, n2, n3, q2, q3, rfl, rfl, c0, c1, c2, c3, fz, hD⟩ := HFIN.out DefD 7 e w2 (fun _ _ h => .inr (.inr (.inl h))) (by omega) h
  have f0 := fz 0; have f1 := fz 1; have f2 := fz 2; have f3 := fz 3
  have HD := Kh hD
  clear hD fz h
  go_wp2
  refine bodyPost_ret (v := .agg #[.int .i64 y0, .int .i64 y1, .slice y2 n2 q2, .slice y3 n3 q3]) (by simp [results, Try.results17, go_sem, c0, c1, c2, c3]) rfl ?_
  exact HD.out
 ·go_wp2_with fail
  refine (mdfa_any B tb w1 letters most h1 (by omega) hm1 hm HT1.out).mono ?_
  intro e w2 h
  obtain ⟨v, y0, y1, y2, y3, n2, n3, q2, q3, rfl, rfl, c0, c1, c2, c3, fz, hD⟩ := HFIN.out (fun _ _ => True) most e w2 (fun _ _ _ => .inr (.inr (.inr trivial))) hm h.r
  have f0 := fz 0; have f1 := fz 1; have f2 := fz 2; have f3 := fz 3
  have HD := Kh hD
  clear hD fz h
  go_wp2
  refine bodyPost_ret (v := .agg #[.int .i64 y0, .int .i64 y1, .slice y2 n2 q2, .slice y3 n3 q3]) (by simp [results, Try.results17, go_sem, c0, c1, c2, c3]) rfl ?_
  exact HD.out
end Go.Proofs.Ytjfdomfendbhfaa
namespace Go.Proofs.Ytjfdomfendbhfaa
open Go.RowKit Go.Maps
theorem DfaOwn.dfa34 {w w' : World} {v : Value} {m : DfaV} {n k : Nat} (h : DfaOwn w w' v m) (hd : VD m n k) : sC w'.heap.size w' v m := by
 obtain ⟨o, hs, sf, cf, sn, cn, rfl, _, hh⟩ := h
 exact (hh.built (by rw [hd.hn, hd.nl])).dfa
theorem patW_ne {bs : List ByteArray} {k : Int} : patW bs k ≠ 20 := by
 unfold patW
 split
 ·decide
 split
 ·decide
 split
 ·decide
 split
 ·decide
 split <;> decide
theorem patsE_ne {k : Int} : ∀ {ps : List (List ByteArray)}, vL k ps ≠ 20
 | [] => by rw [vL]; decide
 | p :: ps => by
  rw [vL]
  split
  ·exact patsE_ne
  ·exact patW_ne
theorem validD_ne {d : DfaV} : wK d ≠ 20 := by
 unfold wK
 split
 ·decide
 split
 ·decide
 split
 ·decide
 split <;> decide
theorem ofE_ne {d : DfaV} {ps : List (List ByteArray)} : ofE d ps ≠ 20 := by
 unfold ofE
 split
 ·split
  ·decide
  ·exact patsE_ne
 ·exact validD_ne
def Refused (d : DfaV) (ps : List (List ByteArray)) (u1 u2 : ByteArray) (E : Int) : Prop := E = 20 ∧ ofE d ps = 0 ∧ ∃ u v : List Nat, u1 = strOfNums (lets u) ∧ u2 = strOfNums (lets v) ∧ yD d.letters.toNat u ∧ yD d.letters.toNat v ∧ u.length ≤ 4000 ∧ v.length ≤ 4000 ∧
 (∀ i, i < ps.length → acc (xE (ps.getD i []) d.letters) (st0 (xE (ps.getD i []) d.letters)) u = acc (xE (ps.getD i []) d.letters) (st0 (xE (ps.getD i []) d.letters)) v) ∧ acc d (st0 d) u = true ∧ acc d (st0 d) v = false
theorem of_cases {w' : World} {d : DfaV} {ps : List (List ByteArray)} {v : Value} {u1 u2 : ByteArray} {E : Int} (h : OfOut w' d ps v u1 u2 E) : (∃ (ap : Option Addr) (n cp : Nat) (ac : Option Addr) (m cc : Nat) (r : Int), v = .agg #[.slice ap n cp, .slice ac m cc, .int .i64 r]) ∧ (E ≠ 20 ∨ Refused d ps u1 u2 E) := by
 cases h with
 | bad h => exact ⟨⟨_, _, _, _, _, _, _, rfl⟩, .inl ofE_ne⟩
 | over h ho => exact ⟨⟨_, _, _, _, _, _, _, rfl⟩, .inl (by decide)⟩
 | conf h hu hc u v h1 h2 h3 h4 h5 h6 h7 => exact ⟨⟨_, _, _, _, _, _, _, rfl⟩, .inr ⟨rfl, h, u, v, rfl, rfl, h1, h2, h3, h4, h5, h6, h7⟩⟩
 | ok v g l L h hL hl4 hn hg h1 h2 h3 h4 h5 hc h6 =>
  obtain ⟨ap, cp, ac, cc, e⟩ := cells_holds hg
  exact ⟨⟨_, _, _, _, _, _, _, e⟩, .inl (by decide)⟩
theorem mts_same {ps : List (List ByteArray)} {k : Nat} (h1 : 1 ≤ k) (h6 : k ≤ 6) (hp : vL (k : Int) ps = 0) {u v : List Nat} (hu : yD k u) (hv : yD k v) (hul : u.length ≤ 2048) (hvl : v.length ≤ 2048)
  (h : ∀ i, i < ps.length → acc (xE (ps.getD i []) (k : Int)) (st0 (xE (ps.getD i []) (k : Int))) u = acc (xE (ps.getD i []) (k : Int)) (st0 (xE (ps.getD i []) (k : Int))) v) : mtsW ps (strOfNums (lets u)) = mtsW ps (strOfNums (lets v)) := by
 obtain ⟨a1, a2⟩ := oD h1 h6 hu hul
 obtain ⟨b1, b2⟩ := oD h1 h6 hv hvl
 refine List.map_congr_left fun p hpm => ?_
 obtain ⟨i, hi, rfl⟩ := List.getElem_of_mem hpm
 have hpi := wO.1 (vK.1 hp _ hpm)
 have e1 := mS hpi a1
 have e2 := mS hpi b1
 rw [a2] at e1
 rw [b2] at e2
 rw [← e1, ← e2]
 have := h i hi
 rwa [zI hi] at this
end Go.Proofs.Ytjfdomfendbhfaa
namespace Go.Proofs.Ytjfdomfendbhfaa
open Go.RowKit Go.Maps
theorem psF_len : psF.length = 7 := by decide +kernel
theorem psP_len : psP.length = 2 := by decide +kernel
theorem smallF : ∀ p ∈ psFL, ∀ u ∈ p, u.length ≤ 4096 := by decide
theorem smallP : ∀ p ∈ psPL, ∀ u ∈ p, u.length ≤ 4096 := by decide
theorem acc_ab : acc dK 0 [0, 1] = true ∧ acc dK 0 [1, 0] = false ∧ acc dK 0 [1, 1] = false := by decide +kernel
theorem knF {w' : World} {v : Value} {u1 u2 : ByteArray} {E : Int} (h : OfOut w' dK psF v u1 u2 E) : E = 0 ∧ ∃ g, lH w'.heap.size w' v g ∧ ∀ s, zU s 2 = true → diaH g s = acc dK 0 (zK s) := by
 cases h with
 | bad h => exact absurd ofEF h
 | over h ho => exact (under_over underF ho).elim
 | conf h hu hc => exact (noConfF (by rw [← psF_len]; exact hc)).elim
 | ok _ g l L h hL hl4 hn hg h1 h2 h3 h4 h5 hc h6 => exact ⟨rfl, g, hg, fun s hs => of_holds h h1 h2 h3 h4 (by have := hc.len_le; omega) h5 hs⟩
theorem knP {w' : World} {v : Value} {u1 u2 : ByteArray} {E : Int} (h : OfOut w' dK psP v u1 u2 E) : E = 20 ∧ v = .agg #[.slice none 0 0, .slice none 0 0, .int .i64 0] ∧ ∃ u v, u1 = strOfNums (lets u) ∧ u2 = strOfNums (lets v) ∧ yD 2 u ∧ yD 2 v ∧ u.length ≤ 4000 ∧ v.length ≤ 4000 ∧ acc dK 0 u = true ∧ acc dK 0 v = false := by
 cases h with
 | bad h => exact absurd ofEP h
 | over h ho => exact (under_over underP ho).elim
 | conf h hu hc u v h1 h2 h3 h4 h5 h6 h7 => exact ⟨rfl, rfl, u, v, rfl, rfl, h1, h2, h3, h4, h6, h7⟩
 | ok _ g l L h hL hl4 hn => exact (hn (by rw [psP_len]; exact confP)).elim
set_option maxRecDepth 100000 in
set_option maxHeartbeats 1600000 in
theorem known34_any (w : World) (hL : SomeLen w) : Calls Try.prog 13 #[] w fun e w' => e = .returned (.bool true) ∧ w.grownBy w' none := by
 obtain ⟨w5, hw5, hg5, hz5, hd5⟩ := dK_lit w
 have hg6 := World.grownBy_alloc w5 (.cells #[.int .i64 2, .int .i64 0, .slice (some ⟨w.heap.size, 0, none⟩) 3 3, .slice (some ⟨w.heap.size + 1 + 1 + 1 + 1, 0, none⟩) 3 3] 42) none
 have hb6 := heap_alloc_new w5 (.cells #[.int .i64 2, .int .i64 0, .slice (some ⟨w.heap.size, 0, none⟩) 3 3, .slice (some ⟨w.heap.size + 1 + 1 + 1 + 1, 0, none⟩) 3 3] 42)
 obtain ⟨w6, hw6⟩ : ∃ w6, w6 = w5.alloc (.cells #[.int .i64 2, .int .i64 0, .slice (some ⟨w.heap.size, 0, none⟩) 3 3, .slice (some ⟨w.heap.size + 1 + 1 + 1 + 1, 0, none⟩) 3 3] 42) := ⟨_, rfl⟩
 rw [← hw6] at hg6 hb6
 obtain ⟨fb, hfb⟩ : ∃ b, b = w.heap.size := ⟨_, rfl⟩
 obtain ⟨nb, hnb⟩ : ∃ b, b = w.heap.size + 1 + 1 + 1 + 1 := ⟨_, rfl⟩
 obtain ⟨P, hP⟩ : ∃ b, b = w.heap.size + 1 + 1 + 1 + 1 + 1 := ⟨_, rfl⟩
 have HW5 := Kh hw5; have HW6 := Kh hw6; have HFB := Kh hfb; have HNB := Kh hnb; have HP := Kh hP
 rw [← hnb, ← hfb] at hd5 hb6 HW6
 rw [show w5.heap.size = P by omega] at hb6
 have HB6 := Kh hb6
 have HD := Kh (hd5.kept hg6 (by simp))
 have HG6 := Kh (zA hg5 hg6 (by simp))
 have HZ : Hid (w5.heap.size ≤ w6.heap.size) := Kh hg6.size
 have HL := Kh hL
 obtain ⟨c0, c1, c2, c3⟩ := zG hb6
 clear hw5 hg5 hz5 hd5 hg6 hb6 hw6 hfb hnb hP
 go_enter Try.func13, Try.ntmps13
 go_upto_region 2 with fail
 rw [← HW5.out, ← HP.out, ← HNB.out, ← HFB.out, ← HW6.out]
 have HF5 : Hid (∀ W : World, Calls Try.prog 45 #[.int .i64 5, .int .i64 2, .int .i64 1, .int .i64 0] W (yY W 0 psFL)) := Kh (fun W => by
  have h := rfam5_any 2 1 0 W (by decide) (by decide) (by decide) (by decide) rfl
  rw [show famE 5 ((2 : Nat) : Int) ((1 : Nat) : Int) ((0 : Nat) : Int) = 0 from famFE, show famL 5 ((2 : Nat) : Int) ((1 : Nat) : Int) ((0 : Nat) : Int) = psFL from famF] at h
  exact h)
 have HF6 : Hid (∀ W : World, Calls Try.prog 45 #[.int .i64 6, .int .i64 2, .int .i64 1, .int .i64 0] W (yY W 0 psPL)) := Kh (fun W => by
  have h := rfam6_any 2 1 0 W (by decide) (by decide) (by decide) (by decide) rfl
  rw [show famE 6 ((2 : Nat) : Int) ((1 : Nat) : Int) ((0 : Nat) : Int) = 0 from famPE, show famL 6 ((2 : Nat) : Int) ((1 : Nat) : Int) ((0 : Nat) : Int) = psPL from famPP] at h
  exact h)
 have HOFC : Hid (∀ (W : World) (pv : Value) (ps : List (List ByteArray)), w6.grownBy W none → vJ W.heap.size W pv ps → ps.length ≤ 4096 → Calls Try.prog 19 #[.agg #[.int .i64 2, .int .i64 0, .slice (some ⟨fb, 0, none⟩) 3 3, .slice (some ⟨nb, 0, none⟩) 3 3], pv] W (OfRet W dK ps)) := Kh (fun W pv ps hW hp h4 => cof_any W.heap.size W _ pv dK ps (Nat.le_refl _) ((HD.out.kept hW (by simp)).mono (by have := HZ.out; have := hW.size; omega)) hp h4)
 go_wp2_with fail
 refine (HF5.out _).mono ?_
 rintro e w7 ⟨sa, sc, svs, rfl, hrt, hrs, hg7⟩
 have HPF := Kh (nB hrt hrs smallF)
 have HG7 := Kh hg7
 have HB7 := Kh (zB HB6.out hg7 (by simp))
 obtain ⟨c0, c1, c2, c3⟩ := zG HB7.out
 have hl7 : psFL.length = 7 := rfl
 rw [hl7] at HPF ⊢
 clear hrt hrs hg7 HF5
 go_wp2_with fail
 refine (HOFC.out _ _ psF HG7.out HPF.out (by rw [psF_len]; omega)).mono ?_
 rintro e w8 ⟨v8, u1, u2, E8, rfl, hout, hg8⟩
 obtain ⟨rfl, g, hdia, hh⟩ := knF hout
 obtain ⟨ap, cp, ac, cc, rfl⟩ := cells_holds hdia
 have HDIA := Kh hdia; have HH := Kh hh
 have HG8 := Kh (zA HG7.out hg8 (by simp))
 obtain ⟨m1, hm1⟩ : ∃ m, m = g.pats.length := ⟨_, rfl⟩
 obtain ⟨m2, hm2⟩ : ∃ m, m = g.chos.length := ⟨_, rfl⟩
 obtain ⟨rt, hrt⟩ : ∃ m, m = g.root := ⟨_, rfl⟩
 rw [← hm1, ← hm2, ← hrt] at HDIA ⊢
 have hg9 := World.grownBy_alloc w8 (.cells #[.slice ap m1 cp, .slice ac m2 cc, .int .i64 rt] 25) none
 have hb9 := heap_alloc_new w8 (.cells #[.slice ap m1 cp, .slice ac m2 cc, .int .i64 rt] 25)
 obtain ⟨w9, hw9⟩ : ∃ w9, w9 = w8.alloc (.cells #[.slice ap m1 cp, .slice ac m2 cc, .int .i64 rt] 25) := ⟨_, rfl⟩
 obtain ⟨R, hR⟩ : ∃ R, R = w8.heap.size := ⟨_, rfl⟩
 rw [← hw9] at hg9 hb9
 rw [← hR] at hb9
 have HW9 := Kh hw9; have HRE := Kh hR; have HB9 := Kh hb9
 have HGH9 := Kh hg9
 have HG9 := Kh (zA HG8.out hg9 (by simp))
 clear hout hg8 hdia hh hm1 hm2 hrt hg9 hb9 hw9 hR c0 c1 c2 c3 HPF
 go_upto_region 4 with fail
 rw [← HW9.out, ← HRE.out]
 go_wp2_with fail
 refine (HF6.out _).mono ?_
 rintro e w10 ⟨sb, sd, svs2, rfl, hrt, hrs, hg10⟩
 have HPP := Kh (nB hrt hrs smallP)
 have HGH10 := Kh (zF HGH9.out hg10)
 have HG910 := Kh hg10
 have HG10 := Kh (zA HG9.out hg10 (by simp))
 obtain ⟨c0, c1, c2, c3⟩ := zG (zB HB6.out HG10.out (by simp))
 have hl10 : psPL.length = 2 := rfl
 rw [hl10] at HPP ⊢
 clear hrt hrs hg10 HF6
 go_wp2_with fail
 refine (HOFC.out _ _ psP HG10.out HPP.out (by rw [psP_len]; omega)).mono ?_
 rintro e w11 ⟨v11, s1, s2, E11, rfl, hout, hg11⟩
 obtain ⟨rfl, rfl, u, v, hs1, hs2, hu1, hv1, hu2, hv2, hu3, hv3⟩ := knP hout
 have HE1 : Hid (∀ W : World, Calls Try.prog 46 #[.string s1] W fun e w' => e = .returned (.bool true) ∧ W = w') := Kh (fun W => by
  have := ends_any W u hu1 hu2
  rwa [← hs1, hu3] at this)
 have HE2 : Hid (∀ W : World, Calls Try.prog 46 #[.string s2] W fun e w' => e = .returned (.bool false) ∧ W = w') := Kh (fun W => by
  have := ends_any W v hv1 hv2
  rwa [← hs2, hv3] at this)
 have hz1 : s1.size ≤ 4000 := by rw [hs1, strOfNums_size]; simpa [lets] using hu2
 have hz2 : s2.size ≤ 4000 := by rw [hs2, strOfNums_size]; simpa [lets] using hv2
 have HGH11 := Kh (zF HGH10.out hg11)
 have HG1011 := Kh hg11
 have HG11 := Kh (zA HG10.out hg11 (by simp))
 clear hout hg11 hs1 hs2 hu1 hv1 hu2 hv2 hu3 hv3 c0 c1 c2 c3 HPP HOFC
 obtain ⟨w12, hw12⟩ : ∃ w12, w12 = w11.alloc (.cells #[.slice none 0 0, .slice none 0 0, .int .i64 0] 25) := ⟨_, rfl⟩
 have hg12 := World.grownBy_alloc w11 (.cells #[.slice none 0 0, .slice none 0 0, .int .i64 0] 25) none
 rw [← hw12] at hg12
 have HW12 := Kh hw12
 have HGH12 := Kh (zF HGH11.out hg12)
 have HG12 := Kh (zA HG11.out hg12 (by simp))
 have HHO : Hid (∀ (W : World) (s : ByteArray) (b : Bool), w8.grownBy W none → s.size ≤ maxLen → diaH g s = b → Calls Try.prog 11 #[.agg #[.slice ap m1 cp, .slice ac m2 cc, .int .i64 rt], .string s] W fun e w' => e = .returned (.bool b) ∧ W.grownBy w' none) := Kh (fun W s b hW hs hb => by
  have := cholds_any w8.heap.size W _ g s hW.size (HDIA.out.kept hW (by simp)) hs (HL.out.kept (zA (zA HG6.out HG8.out (by simp)) hW (by simp)) (by simp))
  rwa [hb] at this)
 have HA1 : Hid (diaH g ⟨#[97, 98]⟩ = true) := Kh (by rw [HH.out _ (by decide)]; exact acc_ab.1)
 have HA2 : Hid (diaH g ⟨#[98, 97]⟩ = false) := Kh (by rw [HH.out _ (by decide)]; exact acc_ab.2.1)
 have HA3 : Hid (diaH g ⟨#[98, 98]⟩ = false) := Kh (by rw [HH.out _ (by decide)]; exact acc_ab.2.2)
 have hm : (2 : Nat) ≤ maxLen := by unfold maxLen; omega
 have HGB12 : Hid (w9.grownBy w12 none) := Kh (zF (zF HG910.out HG1011.out) hg12)
 have HB12 := Kh (zB HB9.out (HGB12.out) (by simp))
 clear hw12 hg12
 go_upto_region 6 with fail
 rw [← HW12.out]
 obtain ⟨x0, x1, x2⟩ := zW HB12.out
 go_wp2_with fail
 refine (HHO.out _ ⟨#[97, 98]⟩ true HGH12.out hm HA1.out).mono ?_
 rintro e w13 ⟨rfl, hg13⟩
 have HGH13 := Kh (zF HGH12.out hg13)
 have HG13 := Kh (zA HG12.out hg13 (by simp))
 obtain ⟨x0, x1, x2⟩ := zW (zB HB12.out hg13 (by simp))
 have HB13 := Kh (zB HB12.out hg13 (by simp))
 clear hg13
 go_wp2_with fail
 refine (HHO.out _ ⟨#[98, 97]⟩ false HGH13.out hm HA2.out).mono ?_
 rintro e w14 ⟨rfl, hg14⟩
 have HGH14 := Kh (zF HGH13.out hg14)
 have HG14 := Kh (zA HG13.out hg14 (by simp))
 obtain ⟨x0, x1, x2⟩ := zW (zB HB13.out hg14 (by simp))
 clear hg14
 go_wp2_with fail
 refine (HHO.out _ ⟨#[98, 98]⟩ false HGH14.out hm HA3.out).mono ?_
 rintro e w15 ⟨rfl, hg15⟩
 have HG15 := Kh (zA HG14.out hg15 (by simp))
 clear hg15 x0 x1 x2
 go_wp2_with fail
 refine (HE1.out _).mono ?_
 rintro e w15 ⟨rfl, rfl⟩
 go_wp2_with fail
 refine (HE2.out _).mono ?_
 rintro e w15 ⟨rfl, rfl⟩
 have hz1' : (s1.size : Int) ≤ 4000 := by omega
 have hz2' : (s2.size : Int) ≤ 4000 := by omega
 go_wp2
 go_ret
 exact ⟨rfl, zA HG6.out HG15.out (by simp)⟩
end Go.Proofs.Ytjfdomfendbhfaa
namespace Go.Proofs.Ytjfdomfendbhfaa
open Go.RowKit
theorem run_take {d : DfaV} {q : Nat} {l : List Nat} {j : Nat} (h : j < l.length) : run d q (l.take (j + 1)) = nx d (run d q (l.take j)) (l.getD j 0) := by
 rw [yH (d := 0) h, run_snoc]
set_option maxRecDepth 100000 in
set_option maxHeartbeats 800000 in
theorem runD_any (B : Nat) (w : World) (v : Value) (d : DfaV) (n k q : Nat) (s : ByteArray) (hB : B ≤ w.heap.size) (h : sC B w v d) (hd : VD d n k) (h5 : n ≤ 512) (hq : q < n) (hs : zU s (k : Int) = true) :
  Calls Try.prog 66 #[v, .int .i64 (q : Int), .string s] w fun e w' => e = .returned (.int .i64 ((run d q (zK s) : Nat) : Int)) ∧ w.grownBy w' none := by
 have hdok := h
 obtain ⟨fb, fo, fc, b, off, cap, RB, RO, RC, rfl, hat⟩ := h.at hd
 have hn1 := hd.n1
 have hk6 := hd.k6
 have hk1 := hd.k1
 have hcp := hat.cap.1
 have hcp2 := hat.cap.2
 have hmx2 : cap ≤ 9223372036854775807 := by unfold maxLen at hcp2; omega
 obtain ⟨S, hS⟩ : ∃ S, S = st0 d := ⟨_, rfl⟩
 have hvd : dAgg k (st0 d) fb fo fc b off cap n = .agg #[.int .i64 (k : Int), .int .i64 (S : Int), .slice (some ⟨fb, fo, none⟩) n fc, .slice (some ⟨b, off, none⟩) n cap] := by rw [hS]; rfl
 rw [hvd] at hdok ⊢
 obtain ⟨wA, hWA⟩ : ∃ wA, wA = w.alloc (.cells #[.int .i64 (k : Int), .int .i64 (S : Int), .slice (some ⟨fb, fo, none⟩) n fc, .slice (some ⟨b, off, none⟩) n cap] 42) := ⟨_, rfl⟩
 have hgA := World.grownBy_alloc w (.cells #[.int .i64 (k : Int), .int .i64 (S : Int), .slice (some ⟨fb, fo, none⟩) n fc, .slice (some ⟨b, off, none⟩) n cap] 42) none
 have hb1 := heap_alloc_new w (.cells #[.int .i64 (k : Int), .int .i64 (S : Int), .slice (some ⟨fb, fo, none⟩) n fc, .slice (some ⟨b, off, none⟩) n cap] 42)
 rw [← hWA] at hb1 hgA
 obtain ⟨P, hP⟩ : ∃ P, P = w.heap.size := ⟨_, rfl⟩
 rw [← hP] at hb1
 obtain ⟨c0, c1, c2, c3⟩ := zG hb1
 have hPz := zN hb1
 have hBA : B ≤ wA.heap.size := by omega
 have HPE := Kh hP
 have HB1 := Kh hb1; have HGA := Kh hgA; have HWA := Kh hWA; have HD := Kh hd
 have HAT : Hid (∀ W : World, w.grownBy W none → DAt B W d n k fb fo fc b off cap RB RO RC) := Kh (fun W hg => hat.kept hg (by simp))
 have HVA := Kh (uF B wA _ d hBA (hdok.kept hgA (by simp)))
 have HV0 := Kh (nQ hd h5)
 have HW := Kh hs
 have HWO := Kh (uA hs)
 have hss := HWO.out.2.2
 have hq' : (q : Int) < n := by omega
 clear hb1 hgA hWA hat hd h hdok hvd hcp2 hS hP hs
 go_enter Try.func66, Try.ntmps66
 go_upto_region 1 with fail
 rw [← HWA.out, ← HPE.out]
 go_wp2_with fail
 refine HVA.out.mono ?_
 rintro e w1 ⟨rfl, hg1⟩
 rw [HV0.out]
 have HG1 := Kh (zA HGA.out hg1 (by simp))
 have HB2 := Kh (zB HB1.out hg1 (by simp))
 obtain ⟨d0, d1, d2, d3⟩ := zG HB2.out
 clear hg1 HVA c0 c1 c2 c3 HB1
 go_wp2_with fail
 refine (tW s (k : Int) w1 (by unfold maxLen; omega)).mono ?_
 rintro e w2 ⟨rfl, rfl⟩
 rw [HW.out]
 go_wp2_with fail
 go_loopg [1, 7, 31] s.size (fun gh a1 a7 i wr => ∃ j : Nat, gh + j = s.size ∧ i = .int .i64 j ∧ a1 = .int .i64 ((run d q ((zK s).take j) : Nat) : Int) ∧ w1.grownBy wr none)
 case atStart => exact ⟨0, rfl, rfl, rfl, zL _ _⟩
 case round =>
  clear d0 d1 d2 d3
  obtain ⟨j, hgh, rfl, rfl, hgr⟩ := hrel
  have HGH := Kh hgh; have HGR := Kh hgr
  obtain ⟨d0, d1, d2, d3⟩ := zG (zB HB2.out hgr (by simp))
  clear hgh
  by_cases hj : j < s.size
  ·have hj' : (j : Int) < s.size := by omega
   have hRn := run_lt HD.out ((zK s).take j) hq (fun a ha => HWO.out.1 a (List.mem_of_mem_take ha))
   have HRT := Kh (run_take (d := d) (q := q) (l := zK s) (j := j) (by rw [yP]; exact hj))
   obtain ⟨R, hR⟩ : ∃ R, R = run d q ((zK s).take j) := ⟨_, rfl⟩
   rw [← hR] at hRn HRT ⊢
   have hRn' : (R : Int) < n := by omega
   have hatr := HAT.out wr (zA HG1.out hgr (by simp))
   have chd := hatr.hd R hRn
   have hrc := hatr.rcap R hRn
   have hrc1 := hrc.1
   have hrc2 : RC R ≤ 9223372036854775807 := by have := hrc.2; unfold maxLen at this; omega
   obtain ⟨b0, a0, hb0, hw0, hm0, ha0, hl0⟩ := byte_facts0 HWO.out.2.1 hj
   have cel := hatr.el R a0 hRn ha0
   have ha0' : (a0 : Int) < k := by omega
   rw [hl0] at HRT
   obtain ⟨rb, hrb⟩ : ∃ rb, rb = RB R := ⟨_, rfl⟩
   obtain ⟨ro, hro⟩ : ∃ ro, ro = RO R := ⟨_, rfl⟩
   obtain ⟨rc, hrcE⟩ : ∃ rc, rc = RC R := ⟨_, rfl⟩
   rw [← hrb, ← hro, ← hrcE] at chd
   rw [← hrb, ← hro] at cel
   rw [← hrcE] at hrc1 hrc2
   obtain ⟨y, hy⟩ : ∃ y, y = nx d R a0 := ⟨_, rfl⟩
   rw [← hy] at cel HRT
   clear hatr hrc hl0 hrb hro hrcE hy hR hgr
   go_wp2_with fail
   go_region
   all_goals (try go_frame)
   all_goals go_wp2
   all_goals
    go_roundg (s.size - (j + 1))
    case measure => have := HGH.out; omega
    case rel => exact ⟨j + 1, by have := HGH.out; omega, by go_num, by rw [HRT.out], zA HGR.out (zP wr none) (by simp)⟩
  ·have hjs : j = s.size := by have := HGH.out; omega
   have hj' : ¬ (j : Int) < s.size := by omega
   have HJ : Hid ((zK s).take j = zK s) := Kh (List.take_of_length_le (by rw [yP]; omega))
   rw [HJ.out]
   clear hjs
   go_wp2
   go_ret
   exact ⟨rfl, zA HG1.out HGR.out (by simp)⟩
set_option maxRecDepth 100000 in
set_option maxHeartbeats 800000 in
theorem accepts_any (B : Nat) (w : World) (v : Value) (d : DfaV) (n k : Nat) (s : ByteArray) (hB : B ≤ w.heap.size) (h : sC B w v d) (hd : VD d n k) (h5 : n ≤ 512) (hs : zU s (k : Int) = true) :
  Calls Try.prog 25 #[v, .string s] w fun e w' => e = .returned (.bool (acc d (st0 d) (zK s))) ∧ w.grownBy w' none := by
 have hdok := h
 obtain ⟨fb, fo, fc, b, off, cap, RB, RO, RC, rfl, hat⟩ := h.at hd
 have hS0 := pF hd
 have hfc := hat.fcap.1
 have hfc2 := hat.fcap.2
 have hmx1 : fc ≤ 9223372036854775807 := by unfold maxLen at hfc2; omega
 have HRL := Kh (run_lt hd (zK s) hS0 (uA hs).1)
 obtain ⟨S, hS⟩ : ∃ S, S = st0 d := ⟨_, rfl⟩
 have hvd : dAgg k (st0 d) fb fo fc b off cap n = .agg #[.int .i64 (k : Int), .int .i64 (S : Int), .slice (some ⟨fb, fo, none⟩) n fc, .slice (some ⟨b, off, none⟩) n cap] := by rw [hS]; rfl
 rw [hvd] at hdok ⊢
 rw [← hS] at hS0 HRL ⊢
 obtain ⟨wA, hWA⟩ : ∃ wA, wA = w.alloc (.cells #[.int .i64 (k : Int), .int .i64 (S : Int), .slice (some ⟨fb, fo, none⟩) n fc, .slice (some ⟨b, off, none⟩) n cap] 42) := ⟨_, rfl⟩
 have hgA := World.grownBy_alloc w (.cells #[.int .i64 (k : Int), .int .i64 (S : Int), .slice (some ⟨fb, fo, none⟩) n fc, .slice (some ⟨b, off, none⟩) n cap] 42) none
 have hb1 := heap_alloc_new w (.cells #[.int .i64 (k : Int), .int .i64 (S : Int), .slice (some ⟨fb, fo, none⟩) n fc, .slice (some ⟨b, off, none⟩) n cap] 42)
 rw [← hWA] at hb1 hgA
 obtain ⟨P, hP⟩ : ∃ P, P = w.heap.size := ⟨_, rfl⟩
 rw [← hP] at hb1
 obtain ⟨c0, c1, c2, c3⟩ := zG hb1
 have hPz := zN hb1
 have hBA : B ≤ wA.heap.size := by omega
 have HPE := Kh hP
 have HB1 := Kh hb1; have HGA := Kh hgA; have HWA := Kh hWA
 have HAT : Hid (∀ W : World, w.grownBy W none → DAt B W d n k fb fo fc b off cap RB RO RC) := Kh (fun W hg => hat.kept hg (by simp))
 have HRU := Kh (runD_any B wA _ d n k S s hBA (hdok.kept hgA (by simp)) hd h5 hS0 hs)
 clear hb1 hgA hWA hat hd h hdok hvd hfc2 hS hP hs
 go_enter Try.func25, Try.ntmps25
 go_upto_region 1 with fail
 rw [← HWA.out, ← HPE.out]
 go_wp2_with fail
 refine HRU.out.mono ?_
 rintro e w1 ⟨rfl, hg1⟩
 have HG1 := Kh (zA HGA.out hg1 (by simp))
 obtain ⟨d0, d1, d2, d3⟩ := zG (zB HB1.out hg1 (by simp))
 obtain ⟨R, hR⟩ : ∃ R, R = run d S (zK s) := ⟨_, rfl⟩
 have hRn : R < n := by rw [hR]; exact HRL.out
 have hRn' : (R : Int) < n := by omega
 have HA : Hid (acc d S (zK s) = d.final.getD R false) := Kh (by rw [hR]; rfl)
 rw [← hR]
 have cfin := (HAT.out w1 HG1.out).fin hRn
 obtain ⟨bf, hbf⟩ : ∃ bf, bf = d.final.getD R false := ⟨_, rfl⟩
 rw [← hbf] at cfin HA
 clear hg1 HRU c0 c1 c2 c3 HB1 hR hbf
 go_wp2
 go_ret
 exact ⟨zZ HA.out.symm, HG1.out⟩
end Go.Proofs.Ytjfdomfendbhfaa
namespace Go.Proofs.Ytjfdomfendbhfaa
open Go.RowKit Go.Maps
set_option maxRecDepth 100000 in
set_option maxHeartbeats 1600000 in
theorem crefused_walk (w : World) (v0 : Value) (z0 : List Int) (h0 : Row w.heap.size w v0 (z0.map (Value.int .i64))) (hL : SomeLen w) :
  Calls Try.prog 5 #[v0] w fun e w' => e = .returned (.bool true) ∧ w.grownBy w' none := by
 have HL := Kh hL
 clear hL
 go_enter Try.func5, Try.ntmps5
 go_wp2_with fail
 refine (new_any w.heap.size w v0 z0 h0 (Nat.le_refl _)).mono ?_
 rintro e w1 ⟨rfl, hT1, hg1⟩
 go_wp2_with fail
 refine (vB w.heap.size w.heap.size w1 2 (by omega) hT1).mono ?_
 rintro e w2 ⟨r, rfl, hr0, hr2, hT2, hg2⟩
 replace hr2 := hr2 (by omega)
 have GW2 := Kh (zA hg1 hg2 (by simp))
 obtain ⟨k, hk⟩ : ∃ k : Nat, 1 + r = (k : Int) := ⟨(1 + r).toNat, by omega⟩
 have hk1 : 1 ≤ k := by omega
 have hk2 : k ≤ 2 := by omega
 have HFA := Kh (family34_any w.heap.size w.heap.size w2 k hk1 hk2 hT2)
 clear hT1 hg1 hT2 hg2
 go_wp2_with fail
 refine HFA.out.mono ?_
 rintro e w3 ⟨pv, L, rfl, hF, hT3, hg3⟩
 obtain ⟨_, _, _, _, pa, pc, rfl⟩ := id hF
 have HF3 := Kh hF
 have GW3 := Kh (zA GW2.out hg3 (fun j e => by have e : w.heap.size = j := Option.some.inj e; omega))
 have HAN := Kh (many_any w.heap.size w.heap.size w3 k 4 hk1 hk2 (by omega) (by omega) hT3)
 have HT3 := Kh hT3
 clear HFA hg3 hF hT3
 go_wp2_with fail
 refine HAN.out.mono ?_
 rintro e w4 ⟨dv, m, n, rfl, hown, hvd, hn5, -, hT4, hg4⟩
 have hd4 := hown.dfa34 hvd
 obtain ⟨fv, nv, rfl, hf, hnx⟩ := id hd4
 obtain ⟨fa, fc, rfl⟩ := hf.shape
 obtain ⟨na, nc, rfl⟩ := hnx.shape
 have GW4 := Kh (zA GW3.out hg4 (fun j e => by have e : w.heap.size = j := Option.some.inj e; omega))
 have HF4 := Kh (HF3.out.kept hg4 (tape_other HT3.out))
 rw [xQ] at hd4 ⊢
 obtain ⟨ml, hml⟩ : ∃ x, x = m.letters := ⟨_, rfl⟩
 obtain ⟨ms, hms⟩ : ∃ x, x = m.start := ⟨_, rfl⟩
 obtain ⟨mf, hmf⟩ : ∃ x, x = m.final.length := ⟨_, rfl⟩
 obtain ⟨mn, hmn⟩ : ∃ x, x = m.next.length := ⟨_, rfl⟩
 rw [← hml, ← hms, ← hmf, ← hmn] at hd4 ⊢
 have HML : Hid (m.letters = (k : Int)) := Kh hvd.hk
 have HD4 := Kh hd4; have HVD := Kh hvd
 have hb5 := heap_alloc_new w4 (.cells #[.int .i64 ml, .int .i64 ms, .slice fa mf fc, .slice na mn nc] 42)
 have hg5 := World.grownBy_alloc w4 (.cells #[.int .i64 ml, .int .i64 ms, .slice fa mf fc, .slice na mn nc] 42) none
 obtain ⟨w5, hw5⟩ : ∃ w5, w5 = w4.alloc (.cells #[.int .i64 ml, .int .i64 ms, .slice fa mf fc, .slice na mn nc] 42) := ⟨_, rfl⟩
 obtain ⟨R, hR⟩ : ∃ R, R = w4.heap.size := ⟨_, rfl⟩
 rw [← hw5] at hb5 hg5
 rw [← hR] at hb5
 have HW5 := Kh hw5; have HRE := Kh hR; have HB5 := Kh hb5
 have GW5 := Kh (zA GW4.out hg5 (by simp))
 have HP5 := Kh (HF4.out.pats.kept hg5 (by simp))
 have HZ45 : Hid (w4.heap.size ≤ w5.heap.size) := Kh hg5.size
 have HG45 := Kh hg5
 have hLl := (famSm_facts HF4.out.1).1
 obtain ⟨ps, hps⟩ : ∃ ps, ps = famB L := ⟨_, rfl⟩
 have hpl : ps.length = L.length := by rw [hps, qW]
 rw [← hps] at HP5 hLl
 obtain ⟨pl, hpl2⟩ : ∃ pl, pl = L.length := ⟨_, rfl⟩
 rw [← hpl2] at hpl HP5 ⊢
 have HOF := Kh (cof_any w4.heap.size w5 _ _ m ps HZ45.out (HD4.out.kept hg5 (by simp)) HP5.out (by omega))
 obtain ⟨c0, c1, c2, c3⟩ := zG hb5
 have HPL := Kh hpl
 clear hown hvd hd4 hf hnx hT4 hg4 hml hms hmf hmn hb5 hg5 hw5 hR HAN HT3 hps hpl2 hpl HF3
 go_upto_region 5 with fail
 rw [← HW5.out, ← HRE.out]
 go_wp2_with fail
 refine HOF.out.mono ?_
 rintro e w6 ⟨v6, s1, s2, E, rfl, hout, hg6⟩
 obtain ⟨⟨ap, n1, cp, ac, n2, cc, rt, rfl⟩, hcase⟩ := of_cases hout
 have hb7 := heap_alloc_new w6 (.cells #[.slice ap n1 cp, .slice ac n2 cc, .int .i64 rt] 25)
 have hg7 := World.grownBy_alloc w6 (.cells #[.slice ap n1 cp, .slice ac n2 cc, .int .i64 rt] 25) none
 obtain ⟨w7, hw7⟩ : ∃ w7, w7 = w6.alloc (.cells #[.slice ap n1 cp, .slice ac n2 cc, .int .i64 rt] 25) := ⟨_, rfl⟩
 rw [← hw7] at hb7 hg7
 have HW7 := Kh hw7
 have HG57 := Kh (zF hg6 hg7)
 have GW7 := Kh (zA GW5.out HG57.out (by simp))
 have HKN : Hid (∀ W : World, w5.grownBy W none → Calls Try.prog 13 #[] W fun e w' => e = .returned (.bool true) ∧ W.grownBy w' none) := Kh (fun W hW => known34_any W (HL.out.kept (zA GW5.out hW (by simp)) (by simp)))
 have HC := Kh hcase
 clear hout hg6 hb7 hg7 hw7 hcase c0 c1 c2 c3
 go_upto_region 6 with fail
 rw [← HW7.out]
 by_cases hE : E = 20
 case neg =>
  have e1 : (E != 20) = true := by rw [bne_iff_ne]; exact hE
  have e2 : ¬ E = 20 := hE
  clear hE
  go_wp2_with fail
  refine (HKN.out _ HG57.out).mono ?_
  rintro e w8 ⟨rfl, hg8⟩
  go_wp2
  go_ret
  exact ⟨rfl, zA GW7.out hg8 (by simp)⟩
 case pos =>
  obtain ⟨-, hoz, u, v, hs1, hs2, hu, hv, hul, hvl, hsame, ha, hb⟩ := HC.out.resolve_left (fun h => h hE)
  subst hE
  rw [HML.out, Int.toNat_natCast] at hu hv
  rw [HML.out] at hsame
  have hz1 : s1.size = u.length := by rw [hs1, strOfNums_size]; simp [lets]
  have hz2 : s2.size = v.length := by rw [hs2, strOfNums_size]; simp [lets]
  have h1 : s1.size ≤ 4000 := by omega
  have h2 : s2.size ≤ 4000 := by omega
  have h1' : (s1.size : Int) ≤ 4000 := by omega
  have h2' : (s2.size : Int) ≤ 4000 := by omega
  have h1'' : ¬ (4000 : Int) < s1.size := by omega
  have h2'' : ¬ (4000 : Int) < s2.size := by omega
  by_cases h200 : 200 < s1.size + s2.size
  ·have h200' : (200 : Int) < (s1.size : Int) + (s2.size : Int) := by omega
   clear hoz hs1 hs2 hu hv hul hvl hsame ha hb hz1 hz2
   go_wp2
   go_ret
   exact ⟨rfl, GW7.out⟩
  ·have h200' : ¬ (200 : Int) < (s1.size : Int) + (s2.size : Int) := by omega
   have hpe := (qM hoz).2.2
   rw [HML.out] at hpe
   have HMT : Hid (mtsW ps s1 = mtsW ps s2) := Kh (by rw [hs1, hs2]; exact mts_same hk1 (by omega) hpe hu hv (by omega) (by omega) hsame)
   obtain ⟨a1, a2⟩ := oD hk1 (by omega) hu (by omega)
   obtain ⟨b1, b2⟩ := oD hk1 (by omega) hv (by omega)
   rw [← hs1] at a1 a2
   rw [← hs2] at b1 b2
   have HAC1 : Hid (∀ W : World, w5.grownBy W none → Calls Try.prog 25 #[.agg #[.int .i64 ml, .int .i64 ms, .slice fa mf fc, .slice na mn nc], .string s1] W fun e w' => e = .returned (.bool true) ∧ W.grownBy w' none) := Kh (fun W hW => by
    have := accepts_any w4.heap.size W _ m n k s1 (Nat.le_trans HZ45.out hW.size) ((HD4.out.kept HG45.out (by simp)).kept hW (by simp)) HVD.out (by omega) a1
    rwa [a2, ha] at this)
   have HAC2 : Hid (∀ W : World, w5.grownBy W none → Calls Try.prog 25 #[.agg #[.int .i64 ml, .int .i64 ms, .slice fa mf fc, .slice na mn nc], .string s2] W fun e w' => e = .returned (.bool false) ∧ W.grownBy w' none) := Kh (fun W hW => by
    have := accepts_any w4.heap.size W _ m n k s2 (Nat.le_trans HZ45.out hW.size) ((HD4.out.kept HG45.out (by simp)).kept hW (by simp)) HVD.out (by omega) b1
    rwa [b2, hb] at this)
   have HMA : Hid (∀ (W : World) (s : ByteArray), w5.grownBy W none → s.size ≤ 4000 → Calls Try.prog 24 #[.slice pa pl pc, .string s] W fun e w' => ∃ sa sc, e = .returned (.slice sa pl sc) ∧ w'.ownsRow W.heap.size 4 1 (.slice sa pl sc) pl (bls (mtsW ps s)) ∧ W.grownBy w' none) := Kh (fun W s hW hs => by
    have := rmatched_any w4.heap.size W _ ps s (Nat.le_trans HZ45.out hW.size) (HP5.out.kept hW (by simp)) (by omega) (by unfold maxLen; omega)
    rwa [HPL.out] at this)
   clear hoz hs1 hs2 hu hv hul hvl hsame ha hb hz1 hz2 a1 a2 b1 b2 hpe
   go_wp2_with fail
   refine (HMA.out _ s1 HG57.out h1).mono ?_
   rintro e w8 ⟨xa, xc, rfl, hx, hg8⟩
   have HX := Kh hx
   have HG58 := Kh (zF HG57.out hg8)
   clear hx hg8
   go_wp2_with fail
   refine (HMA.out _ s2 HG58.out h2).mono ?_
   rintro e w9 ⟨ya, yc, rfl, hy, hg9⟩
   have HY := Kh hy
   have HX9 := Kh (zV HX.out hg9)
   have HG59 := Kh (zF HG58.out hg9)
   have HLN : Hid ((mtsW ps s1).length = pl) := Kh (by rw [mtsW_length]; exact HPL.out)
   rw [← HMT.out] at HY
   obtain ⟨bs, hbs⟩ : ∃ bs, bs = mtsW ps s1 := ⟨_, rfl⟩
   rw [← hbs] at HX9 HY HLN
   have HB9 := Kh (zB HB5.out HG59.out (by simp))
   clear hy hg9 HX hbs HMA HMT
   go_wp2
   go_loopg [13, 68] pl (fun gh v13 v68 wr => ∃ i : Nat, gh + i = pl ∧ v68 = .int .i64 i ∧ w9.grownBy wr none)
   case atStart => exact ⟨0, rfl, rfl, zL _ _⟩
   case round =>
    obtain ⟨i, hgi, rfl, hg⟩ := hrel
    have HGI := Kh hgi; have HG := Kh hg
    clear hgi
    by_cases hi : i < pl
    ·have hi' : (i : Int) < pl := by omega
     obtain ⟨xb, rfl, x1, x2, xarr⟩ := xJ (zV HX9.out hg) (by omega)
     obtain ⟨yb, rfl, y1, y2, yarr⟩ := xJ (zV HY.out hg) (by omega)
     have cx := xarr.bool i (by rw [HLN.out]; exact hi)
     have cy := yarr.bool i (by rw [HLN.out]; exact hi)
     obtain ⟨bo, hbo⟩ : ∃ b, b = bs.getD i false := ⟨_, rfl⟩
     rw [← hbo] at cx cy
     have q1 : xc ≤ 9223372036854775807 := by unfold maxLen at x2; omega
     have q2 : yc ≤ 9223372036854775807 := by unfold maxLen at y2; omega
     clear xarr yarr x2 y2 hbo hg
     go_upto_region 14 with fail
     go_quiet (fail)
     go_wp2
     go_roundg (pl - (i + 1))
     case measure => have := HGI.out; omega
     case rel => exact ⟨i + 1, by have := HGI.out; omega, by go_num, zA HG.out (by first | exact zT _ _ none | exact zP _ none) (by simp)⟩
    ·have hi' : ¬ (i : Int) < pl := by omega
     have HGr := Kh (zF HG59.out hg)
     obtain ⟨c0, c1, c2, c3⟩ := zG (zB HB9.out hg (by simp))
     have HBr := Kh (zB HB9.out hg (by simp))
     clear hg
     go_wp2_with fail
     refine (HAC1.out _ HGr.out).mono ?_
     rintro e w10 ⟨rfl, hg10⟩
     have HG10 := Kh (zF HGr.out hg10)
     obtain ⟨c0, c1, c2, c3⟩ := zG (zB HBr.out hg10 (by simp))
     clear hg10
     go_wp2_with fail
     refine (HAC2.out _ HG10.out).mono ?_
     rintro e w11 ⟨rfl, hg11⟩
     have HG11 := Kh (zF HG10.out hg11)
     clear hg11 c0 c1 c2 c3
     go_wp2_with fail
     refine (HKN.out _ HG11.out).mono ?_
     rintro e w12 ⟨rfl, hg12⟩
     go_wp2
     go_ret
     exact ⟨rfl, zA GW5.out (zF HG11.out hg12) (by simp)⟩
end Go.Proofs.Ytjfdomfendbhfaa
namespace Go.Proofs.Ytjfdomfendbhfaa
open Go.RowKit
theorem someLen_of_shaped {w : World} (h : w.ShapedOpen Try.prog) : SomeLen w := by
 obtain ⟨m, hm⟩ := Go.Proofs.cell_of_shapedOpen_int (P := Try.prog) (w := w) (g := 0) (t := 3) (zero := #[.int .i64 0]) (k := .i64) h (of_decide_eq_true (by kernel_rfl)) (by kernel_rfl) rfl (by kernel_rfl) (by kernel_rfl) Try.underlying3
 exact ⟨World.block_lt_of_cell? w _ hm, m, hm⟩
end Go.Proofs.Ytjfdomfendbhfaa
