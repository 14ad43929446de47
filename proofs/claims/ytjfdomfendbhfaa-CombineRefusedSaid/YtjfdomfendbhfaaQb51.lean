/- Part 51 of the proof: RFam6. -/
import Derived.Test.YtjfdomfendbhfaaQb46
set_option linter.unusedVariables false
set_option linter.unusedSimpArgs false
namespace Go.Proofs.Ytjfdomfendbhfaa
open Go.RowKit
set_option maxRecDepth 100000 in
set_option maxHeartbeats 4000000 in
theorem rfam6_any (L K M : Nat) (w : World) (hl1 : 1 ≤ L) (hl6 : L ≤ 6) (hk1 : 1 ≤ K) (hk8 : K ≤ 8) (hm : M = 0) :
  Calls Try.prog 45 #[.int .i64 6, .int .i64 L, .int .i64 K, .int .i64 M] w (yY w (famE 6 L K M) (famL 6 L K M)) := by
 have HML := Kh (yL w (L : Int))
 rw [decide_eq_true (show 1 ≤ (L : Int) ∧ (L : Int) ≤ 6 by omega)] at HML
 have ho : wI 6 L K M = true := by simp [wI]; omega
 have HO := Kh ho
 have HSZ := Kh (oW (kind := 6) (letters := L) (k := K) (m := M) (by decide) (by decide) hl1 (fun _ => by omega))
 have HRL := Kh (oZ (kind := 6) (letters := L) (k := K) (by decide) (by decide) M)
 have HGE := Kh (nI (kind := 6) (L := L) (K := K) M)
 have hm1 : ((M : Int) != 0) = false := by rw [hm]; rfl
 clear ho
 by_cases h6 : 8 < (K : Int) + 2
 ·have h3 := wX HO.out (.inl ⟨rfl, h6⟩)
  have H3 := Kh h3
  clear h3
  go_enter Try.func45, Try.ntmps45
  go_wp2_with fail
  refine HML.out.mono ?_
  rintro e w ⟨rfl, rfl⟩
  go_wp2
  refine bodyPost_ret (v := .tuple #[.slice none 0 0, .int .i64 3]) (by simp [results, Try.results45, go_sem]) rfl ?_
  rw [H3.out.1, H3.out.2]
  exact yY.nil (zL _ _)
 have HUB : Hid (∀ i, i ≤ K → (upTo L (i + 1)).length ≤ 20000000) := Kh (fun i hi => by have := vE L hl6 (i + 1) (by omega); omega)
 go_enter Try.func45, Try.ntmps45
 go_wp2_with fail
 refine HML.out.mono ?_
 rintro e w ⟨rfl, rfl⟩
 go_wp2
 go_loopg [11, 12, 13] K (fun gh vc vi vp wr => ∃ i : Nat, gh + i = K ∧ vc = .int .i64 (((upTo L (i + 1)).length : Nat) : Int) ∧ vi = .int .i64 (i : Int) ∧ vp = .int .i64 ((L ^ i : Nat) : Int) ∧ w = wr)
 case atStart => exact ⟨0, rfl, by rw [yU, List.length_append, xO]; simp [upTo], rfl, rfl, rfl⟩
 case round =>
  obtain ⟨i, hgh, rfl, rfl, rfl, rfl⟩ := hrel
  have HGH := Kh hgh
  clear hgh
  have hb1 := HUB.out i (by have := HGH.out; omega)
  by_cases hlt : i < K
  ·have hlt' : (i : Int) < (K : Int) := by omega
   have hb2 := HUB.out (i + 1) (by omega)
   have hst := wV L i
   rw [hst] at hb2
   have HST := Kh hst
   obtain ⟨CN, hCN⟩ : ∃ CN, CN = (upTo L (i + 1)).length := ⟨_, rfl⟩
   obtain ⟨PW, hPW⟩ : ∃ PW, PW = L ^ i := ⟨_, rfl⟩
   obtain ⟨P2, hP2⟩ : ∃ P2, P2 = L ^ i * L := ⟨_, rfl⟩
   have hmul : (PW : Int) * (L : Int) = (P2 : Int) := by rw [hP2, hPW]; push_cast; rfl
   have HS2 : Hid ((upTo L (i + 1 + 1)).length = CN + P2 ∧ L ^ (i + 1) = P2) := Kh ⟨by rw [HST.out, hCN, hP2], by rw [hP2, Nat.pow_succ]⟩
   rw [← hP2, ← hCN] at hb2
   rw [← hCN, ← hPW]
   clear hst hCN hPW hP2 hb1
   go_wp2
   go_roundg (K - (i + 1))
   case measure => have := HGH.out; omega
   case rel => exact ⟨i + 1, by have := HGH.out; omega, by rw [HS2.out.1]; go_num, by go_num, by rw [HS2.out.2], rfl⟩
  ·obtain rfl : i = K := by have := HGH.out; omega
   clear hlt HUB
   obtain ⟨ws, hws⟩ : ∃ ws, ws = yQ L i := ⟨_, rfl⟩
   have HWS := Kh hws
   have hwe : upTo L (i + 1) = ws := hws.symm
   rw [hwe] at hb1 ⊢
   have HGE2 : Hid (ws.length ≤ (famP 6 L i M).length + 1) := Kh (by rw [hws]; exact HGE.out)
   have hw1 : 1 ≤ ws.length := by rw [hws]; exact rD hl1
   have H2W : Hid (1 ≤ i → 2 ≤ ws.length) := Kh (fun h => by rw [hws]; exact qG hl1 h)
   have HWN : Hid (∀ r (h : r < ws.length), (ws[r] = [] ↔ r = 0)) := Kh (by subst hws; exact fun r h => vV h)
   have HW8 : Hid (∀ u ∈ ws, u.length ≤ 8) := Kh (by subst hws; exact fun u hu => tE hk8 hu)
   have HOW : Hid (∀ u ∈ ws, okW u) := Kh (by subst hws; exact fun u hu => okB hl6 (n := i + 1) hu)
   have HUP : Hid (ws.length ≤ 301 → Calls Try.prog 76 #[.int .i64 L, .int .i64 i] w (kB w ws)) := Kh (fun h => by rw [← hwe]; exact qF L i w hl1 hl6 hk8 (by rw [hwe]; omega))
   clear hws hwe
   by_cases hbig : 300 < (ws.length : Int) - 1
   ·have h3 := wX HO.out (.inr (HSZ.out.2 (by have := HGE2.out; omega)))
    have H3 := Kh h3
    clear h3
    go_wp2
    refine bodyPost_ret (v := .tuple #[.slice none 0 0, .int .i64 3]) (by simp [results, Try.results45, go_sem]) rfl ?_
    rw [H3.out.1, H3.out.2]
    exact yY.nil (zL _ _)
   have HUP2 := Kh (HUP.out (by omega))
   clear HUP
   go_wp2_with fail
   refine HUP2.out.mono ?_
   rintro e w1 ⟨sa, sc, rfl, hrow, hg1⟩
   obtain ⟨b, off, rfl, hc1, hc2⟩ := vZ hrow (by omega)
   have hc3 : sc ≤ 9223372036854775807 := by unfold maxLen at hc2; omega
   have hw301 : ws.length ≤ 301 := by omega
   clear HUP2 hc2 hbig
   obtain ⟨ba, hba⟩ : ∃ ba, ba = w1.heap.size := ⟨_, rfl⟩
   rw [← hba] at hrow
   have hbz : ba ≤ w1.heap.size := by omega
   have hwba : w.heap.size ≤ ba := by rw [hba]; exact hg1.size
   clear hba
   go_wp2
   go_loopw [15, 90] (fun v iv wr => ∃ (j n : Nat) (sl : Option Addr) (c : Nat) (svs : List Value), iv = .int .i64 (j : Int) ∧ j ≤ ws.length ∧ v = .slice sl n c ∧
     LUp 28 ba wr (.slice sl n c) n svs (genL 6 i (ws.take j)) ∧ RowT ba 9 wr (.slice (some ⟨b, off, none⟩) ws.length sc) (strs ws) ∧ w.grownBy wr none ∧ ba ≤ wr.heap.size)
    (fun _ iv _ => ws.length - (intOf iv).toNat)
   case atStart => exact ⟨0, 0, none, 0, [], rfl, Nat.zero_le _, rfl, by simpa [genL] using LUp.nil (by decide) _ _, hrow, hg1, hbz⟩
   case round =>
    clear hrow hg1 hbz
    obtain ⟨j, n, sl, c, svs, rfl, hj, rfl, hlp, hT, hg, hbz⟩ := hrel
    obtain ⟨wo, rfl⟩ : ∃ wo : World, wo = wr := ⟨_, rfl⟩
    have hn : n ≤ 1600 := by
     have h1 := hlp.len
     have h2 := rM 6 i (ws.take j)
     rw [List.length_take] at h2; omega
    have HLP := Kh hlp
    clear hlp
    by_cases hlt : j < ws.length
    ·have hlt' : (j : Int) < ws.length := by omega
     have hcell := uE hT hlt
     have hu8 := HW8.out _ (List.getElem_mem hlt)
     have hsn := sR 6 i hlt
     obtain ⟨u, hu2⟩ : ∃ u, u = ws[j] := ⟨_, rfl⟩
     rw [← hu2] at hcell hu8 hsn
     rw [genU_6] at hsn
     have HU := Kh hu2; have HSN := Kh hsn
     clear hu2 hsn
     have hsu : (strOfNums u).size = u.length := strOfNums_size u
     have hemp := lX u
     by_cases he : u = []
     ·have hemp2 : (strOfNums u).toList.isEmpty = true := by rw [hemp, he]; rfl
      clear hemp
      have HEM := Kh he
      clear he
      rw [if_pos HEM.out, List.append_nil] at HSN
      go_wp2
      go_roundw
      case rel => exact ⟨j + 1, _, sl, c, _, by go_num, by omega, rfl, by rw [HSN.out]; exact HLP.out, hT, hg, hbz⟩
      case measure => simp [intOf]; omega
     ·have hemp2 : (strOfNums u).toList.isEmpty = false := by rw [hemp, List.isEmpty_eq_false_iff]; exact he
      clear hemp
      have HEM := Kh he
      clear he
      rw [if_neg HEM.out] at HSN
      have HOU := Kh (HOW.out u (by rw [HU.out]; exact List.getElem_mem hlt))
      have g0 : wo.grownBy (wo.alloc (.cells #[.string ⟨#[]⟩] 9)) none := World.grownBy_alloc _ _ _
      have ho := World.ownsRow_lit (e := 9) (size := 1) wo #[.string ⟨#[]⟩] 1 (Nat.le_refl _) (by unfold maxLen; omega) (by simp)
      have hit : ((wo.alloc (.cells #[.string ⟨#[]⟩] 9)).iter (strOfNums u) 0).heap[wo.heap.size + 1]? = some (.stringIter (strOfNums u) 0) := by
       have := World.iter_heap (wo.alloc (.cells #[.string ⟨#[]⟩] 9)) (strOfNums u) 0
       rwa [zJ] at this
      have HO0 := Kh (ho.alloc (.stringIter (strOfNums u) 0)); have HIT := Kh hit
      have HG0 := Kh (vG g0 (.stringIter (strOfNums u) 0))
      clear ho hit g0
      go_wp2
      go_loopg [18] u.length (fun gh v wq => ∃ (p : Nat) (sb : Option Addr) (cb : Nat), gh + p = u.length ∧ v = .slice sb (1 + p) cb ∧ wq.ownsRow wo.heap.size 9 1 (.slice sb (1 + p) cb) (1 + p) (strs (qV u p)) ∧ wq.heap[wo.heap.size + 1]? = some (.stringIter (strOfNums u) p) ∧ wo.grownBy wq none)
      case atStart => exact ⟨0, _, _, rfl, rfl, HO0.out, HIT.out, HG0.out⟩
      case round =>
       clear HO0 HIT HG0
       obtain ⟨p, sb, cb, hgh, rfl, hownb, hitr, hgq⟩ := hrel
       obtain ⟨wq, rfl⟩ : ∃ wq : World, wq = wr := ⟨_, rfl⟩
       have HGHP := Kh hgh
       clear hgh
       by_cases hpl : p < u.length
       ·have hps : p < (strOfNums u).size := by omega
        have hnx : ∀ ty, (Instr.next (.pointer (some ⟨wo.heap.size + 1, 0, none⟩)) true ty).run Try.prog wq = _ := fun ty => Lib.run_next_ascii_at wq (wo.heap.size + 1) (strOfNums u) p ty hitr hps (str_ascii HOU.out hpl hps)
        have hex := extract_one u p hpl
        have hit2 := Lib.iterAt_heap wq (wo.heap.size + 1) (strOfNums u) p (p + 1) hitr
        have hgi := grown_iterAt wq (wo.heap.size + 1) (strOfNums u) (p + 1)
        have hown2 := hownb.kept hgi (.inr (lN hownb hitr).symm)
        have hgq2 := zA hgq hgi (fun q e => by have := Option.some.inj e; omega)
        obtain ⟨BY, hBY⟩ : ∃ BY : Nat, BY = ((strOfNums u)[p]'hps).toNat := ⟨_, rfl⟩
        rw [← hBY] at hnx
        obtain ⟨wi, hwi⟩ : ∃ wi, wq.iterAt (wo.heap.size + 1) (strOfNums u) (p + 1) = wi := ⟨_, rfl⟩
        rw [hwi] at hnx hit2 hown2 hgq2
        have HIT2 := Kh hit2
        have hp8 : (p : Int) + 1 ≤ 8 := by omega
        have hp9 : (p : Int) < ((strOfNums u).size : Int) := by omega
        have hp10 : (p : Int) + 1 ≤ ((strOfNums u).size : Int) := by omega
        clear hBY hwi hgi hownb hitr hgq hit2
        go_wp2_with (at_builtin; refine app1 rfl (.tmp 166) (.tmp 172) _ rfl qX wo.heap.size _ (1 + p) (strs (qV u p)) rfl hown2 _ rfl rfl ?c1 ?c2 ?c3 ?_)
        case c1 => unfold maxLen; omega
        case c2 => omega
        case c3 => exact hgq2.size
        intro sb' cb' w3 hown3 hg3 _
        have hb3 := fun q (e : (Value.slice sb (1 + p) cb).ownBlock = some q) => (hown2.lt q e).1
        have hg4 := zA hgq2 hg3 hb3
        have hit3 := zB HIT2.out hg3 (fun e => lN hown2 HIT2.out e.symm)
        have e1 : strs (qV u (p + 1)) = strs (qV u p) ++ [.string (strOfNums [u[p]])] := by
         rw [qV, qV, List.take_succ_eq_append_getElem hpl, List.map_append, ← List.append_assoc, qH]; rfl
        have HE := Kh e1; have HO3 := Kh hown3; have HI3 := Kh hit3
        clear hown2 hgq2 hg3 hex e1 hown3 hit3 hnx hb3
        go_wp2
        go_roundg (u.length - (p + 1))
        case measure => have := HGHP.out; omega
        case rel => exact ⟨p + 1, sb', cb', by have := HGHP.out; omega, rfl, by rw [HE.out]; exact HO3.out, HI3.out, hg4⟩
       ·obtain ⟨ub, hub⟩ : ∃ ub, ub = qV u p := ⟨_, rfl⟩
        have hpu : p = u.length := by have := HGHP.out; omega
        have hubl : ub.length = 1 + p := by rw [hub]; simp [qV]; omega
        have hubp : tR u = ub ++ [[]] := by rw [hub, qV, List.take_of_length_le (by omega)]; rfl
        have hps : ¬ p < (strOfNums u).size := by omega
        have hp8 : p ≤ 8 := by omega
        have hnx : ∀ ty, (Instr.next (.pointer (some ⟨wo.heap.size + 1, 0, none⟩)) true ty).run Try.prog wq = _ := fun ty => Lib.run_next_end_at wq (wo.heap.size + 1) (strOfNums u) p ty hitr hps
        rw [← hub] at hownb
        have HUP := Kh hubp
        clear hub hubl hubp hpu hitr hpl
        go_wp2_with (at_builtin; refine app1 rfl (.tmp 175) (.tmp 176) _ rfl qX wo.heap.size _ (1 + p) (strs ub) rfl hownb _ rfl rfl ?c1 ?c2 ?c3 ?_)
        case c1 => unfold maxLen; omega
        case c2 => omega
        case c3 => exact hgq.size
        intro sb' cb' w3 hown3 hg3 _
        have hg4 := zA hgq hg3 (fun q e => (hownb.lt q e).1)
        have e3 : strs ub ++ [.string ⟨#[]⟩] = strs (tR u) := by rw [HUP.out, qH]; rfl
        rw [e3] at hown3
        have hlp3 := HLP.out.kept hg4 (by simp)
        have hs3 := hg4.size
        clear hownb hg3 hgq hnx e3
        go_wp2_with (at_builtin; refine app1 rfl (.tmp 174) (.tmp 179) _ rfl yN ba _ n svs rfl hlp3.own _ rfl rfl ?c1 ?c2 ?c3 ?_)
        case c1 => unfold maxLen; omega
        case c2 => omega
        case c3 => omega
        intro sl5 c5 w5 hown5 hg5 _
        obtain ⟨hp5, hg6⟩ := HLP.out.push (us := tR u) hg4 hown3 hown5 hg5
        have hb5 := fun q (e : (Value.slice sl n c).ownBlock = some q) => (HLP.out.own.lt q e).1
        have hT5 := hT.kept hg6 (fun q e => .inl (hb5 q e))
        have hg7 := zA hg hg6 (fun q e => by have := hb5 q e; omega)
        have hz5 : ba ≤ w5.heap.size := by have := hg6.size; omega
        have HP5 := Kh hp5
        clear hown3 hown5 hg4 hg5 hg6 hlp3 hp5 hT hg hb5 HLP hs3 hcell
        go_wp2
        go_roundw
        case rel => exact ⟨j + 1, n + 1, sl5, c5, _, by go_num, by omega, rfl, by rw [HSN.out]; exact HP5.out, hT5, hg7, hz5⟩
        case measure => simp [intOf]; omega
    ·obtain rfl : j = ws.length := by omega
     rw [List.take_length] at HLP
     have HREF : Hid (refL 6 L i M = genL 6 i ws ++ []) := Kh (by rw [refL, HWS.out]; rfl)
     clear hlt hj
     rw [List.append_nil] at HREF
     clear hT
     rw [← HREF.out] at HLP
     obtain ⟨RL, hRL⟩ : ∃ RL, RL = refL 6 L i M := ⟨_, rfl⟩
     have HRLE := Kh hRL
     rw [← hRL] at HLP
     clear hRL HREF
     have hnl := HLP.out.len
     by_cases hlim : 300 < n
     ·have hlim' : (300 : Int) < (n : Int) := by omega
      have H3 := Kh (wX HO.out (.inr (HSZ.out.2 (HRL.out.1 (by rw [← HRLE.out]; omega)))))
      clear hlim
      go_wp2
      refine bodyPost_ret (v := .tuple #[.slice none 0 0, .int .i64 3]) (by simp [results, Try.results45, go_sem]) rfl ?_
      rw [H3.out.1, H3.out.2]
      exact yY.nil hg
     have hlim' : ¬ (300 : Int) < (n : Int) := by omega
     have HFS := Kh (tA HO.out (fun h => by omega) (fun h => by have := HRL.out.2 (HSZ.out.1 h); rw [← HRLE.out] at this; omega))
     have HND : Hid RL.Nodup := Kh (by rw [HRLE.out]; exact sK (by decide) (by decide) (by rw [← HRLE.out]; omega))
     have HFIN : Hid (∀ ps, wS ps → ps.Perm RL → ps = famP 6 L i M) := Kh (fun ps h1 h2 => uW (by decide) (by decide) (by rw [← HRLE.out]; omega) h1 (by rw [← HRLE.out]; exact h2))
     have HOK : Hid (∀ p ∈ RL, okP p) := Kh (fun p hp => by rw [HRLE.out] at hp; exact nA hl6 hk8 (by omega) hp)
     have hN300 : n ≤ 300 := by omega
     have HNL := Kh hnl
     clear hlim hnl HRLE
     obtain ⟨NL, hNL⟩ : ∃ NL, NL = n := ⟨_, rfl⟩
     rw [← hNL] at HLP HNL hN300 hlim' ⊢
     clear hNL
     obtain ⟨SL, hSL⟩ : ∃ SL, SL = sl := ⟨_, rfl⟩
     rw [← hSL] at HLP ⊢
     clear hSL
     obtain ⟨SC, hSC⟩ : ∃ SC, SC = c := ⟨_, rfl⟩
     rw [← hSC] at HLP ⊢
     clear hSC
     go_wp2
     go_loopg [194] NL (fun gh iv wx => ∃ (q : Nat) (sv : List Value) (ps : List (List (List Int))), gh + q = NL ∧ iv = .int .i64 (q : Int) ∧ LUp 28 ba wx (.slice SL NL SC) NL sv ps ∧ Hid (wS (ps.take q) ∧ ps.Perm RL) ∧ w.grownBy wx none)
     case atStart => exact ⟨0, _, _, rfl, rfl, HLP.out, Kh ⟨by simp [wS], List.Perm.refl _⟩, hg⟩
     case round =>
      clear HLP hg
      obtain ⟨q, sv, ps, hgh, rfl, hlp, hso, hg⟩ := hrel
      obtain ⟨wa, rfl⟩ : ∃ wa : World, wa = wr := ⟨_, rfl⟩
      have HGH := Kh hgh; have HLP := Kh hlp
      clear hgh
      by_cases hq : q < NL
      ·have hq' : (q : Int) < (NL : Int) := by omega
       rcases id hlp.own.2 with ⟨_, e2⟩ | ⟨g, cap, cur, e1, hgb, _, hnc, hcm, _, _⟩
       ·omega
       simp only [Value.slice.injEq] at e1
       obtain ⟨rfl, _, rfl⟩ := e1
       have hSC3 : SC ≤ 9223372036854775807 := by unfold maxLen at hcm; omega
       have hwg : w.heap.size ≤ g := by omega
       have HIN : Hid (InsI RL ps q q) := Kh (sQ hso.out.1 (by have := hlp.len; omega) hso.out.2)
       clear hlp hso hcm
       go_wp2
       go_loopg [21] q (fun gh jv wx => ∃ (j : Nat) (sv : List Value) (ps : List (List (List Int))), j = gh ∧ j ≤ q ∧ jv = .int .i64 (j : Int) ∧ LUp 28 ba wx (.slice (some ⟨g, 0, none⟩) NL SC) NL sv ps ∧ Hid (InsI RL ps q j) ∧ w.grownBy wx none)
       case atStart => exact ⟨q, sv, ps, rfl, Nat.le_refl _, rfl, HLP.out, HIN, hg⟩
       case round =>
        clear HLP HIN hg
        obtain ⟨j, sv, ps, rfl, hjq, rfl, hlp, hin, hg⟩ := hrel
        obtain ⟨wb, rfl⟩ : ∃ wb : World, wb = wr := ⟨_, rfl⟩
        by_cases hj0 : j = 0
        ·subst hj0
         have HLP := Kh hlp
         clear hlp
         go_wp2
         go_quiet (fail)
         go_wp2
         go_roundg (NL - (q + 1))
         case measure => have := HGH.out; omega
         case rel => exact ⟨q + 1, sv, ps, by have := HGH.out; omega, by go_num, HLP.out.kept (zT wb _ none) (by simp), Kh (vC hin.out HND.out (.inl rfl)), zA hg (zT wb _ none) (by simp)⟩
        ·obtain ⟨k, hjk⟩ : ∃ k, j = k + 1 := ⟨j - 1, by omega⟩
         obtain ⟨a1, d1, p1, hs1, hp1, hc1', hr1⟩ := hlp.at (i := k) (by omega)
         obtain ⟨a2, d2, p2, hs2, hp2, hc2', hr2⟩ := hlp.at (i := j) (by omega)
         obtain ⟨A0, x0, B0, C0, hps0, _, _, _, _, hperm⟩ := hin.out
         have ho1 := HOK.out p1 (hperm.mem_iff.1 (List.mem_of_getElem? hp1))
         have ho2 := HOK.out p2 (hperm.mem_iff.1 (List.mem_of_getElem? hp2))
         clear hps0 hperm
         have hgd : wb.grownBy wb.drew none := zP wb none
         have HLE := Kh (qR wb.heap.size wb.heap.size wb.drew (.slice a2 p2.length d2) (.slice a1 p1.length d1) p2 p1 (hr2.kept hgd (by simp)).row (hr1.kept hgd (by simp)).row ho2.2 ho1.2 ho2.1 ho1.1)
         have HLP := Kh hlp
         have hk0 : (0 : Int) < (j : Int) := by omega
         have hk0n : 0 < j := by omega
         have hd1 : decide ((0 : Int) < (j : Int)) = true := decide_eq_true hk0
         have hd2 : decide (0 < j) = true := decide_eq_true hk0n
         have hkn : (j : Int) < (NL : Int) := by omega
         have hkn2 : (k : Int) < (NL : Int) := by omega
         have hwk : IntKind.i64.wrap ((j : Int) - 1) = (k : Int) := by rw [IntWalk.i64_in _ (by omega)]; omega
         have hwk2 : IntKind.i64.wrap (k : Int) = (k : Int) := IntWalk.i64_in _ (by omega)
         have hk00 : (0 : Int) ≤ (k : Int) := by omega
         have hk300 : (k : Int) ≤ 300 := by omega
         have hsub : (j : Int) - 1 = (k : Int) := by omega
         have HJK := Kh hjk
         have HCC : Hid (∀ W, wb.drew.grownBy W none → W.cell? ⟨g, j, none⟩ = some (.slice a2 p2.length d2) ∧ W.cell? ⟨g, k, none⟩ = some (.slice a1 p1.length d1)) := Kh (fun W hW => ⟨zQ (zQ hc2' hgd) hW, zQ (zQ hc1' hgd) hW⟩)
         obtain ⟨n2, hn2⟩ : ∃ n2, n2 = p2.length := ⟨_, rfl⟩
         obtain ⟨n1, hn1⟩ : ∃ n1, n1 = p1.length := ⟨_, rfl⟩
         rw [← hn1] at hs1 hc1' HLE HCC
         rw [← hn2] at hs2 hc2' HLE HCC
         have HS1 := Kh hs1; have HS2 := Kh hs2; have HP1 := Kh hp1; have HP2 := Kh hp2
         clear hlp hr1 hr2 ho1 ho2 hs1 hs2 hp1 hp2 hn1 hn2 hjk hj0
         cases hle : xS p2 p1 with
         | false =>
          rw [hle] at HLE
          have HDN := Kh (vC hin.out HND.out (.inr ⟨k, p1, p2, HJK.out, HP1.out, by rw [← HJK.out]; exact HP2.out, hle⟩))
          clear hle hin
          go_wp2
          go_region_held3 (fun W => W.cell? ⟨g, j, none⟩ = some (.slice a2 n2 d2) ∧ W.cell? ⟨g, k, none⟩ = some (.slice a1 n1 d1))
           (first | go_keep | exact HCC.out _ hG7 | fail)
           (first | (go_at_call 78; (with_reducible refine HLE.out.mono ?_); rintro e w7 ⟨rfl, hG7⟩) | fail)
          go_wp2
          go_roundg (NL - (q + 1))
          case measure => have := HGH.out; omega
          case rel => exact ⟨q + 1, sv, ps, by have := HGH.out; omega, by go_num, (HLP.out.kept hgd (by simp)).kept hG7 (by simp), HDN, zA (zA hg hgd (by simp)) hG7 (by simp)⟩
         | true =>
          rw [hle] at HLE
          have HST := Kh (qS (by rw [← HJK.out]; exact hin.out) HP1.out (by rw [← HJK.out]; exact HP2.out) hle)
          clear hle hin
          go_wp2
          go_region_held3 (fun W => W.cell? ⟨g, j, none⟩ = some (.slice a2 n2 d2) ∧ W.cell? ⟨g, k, none⟩ = some (.slice a1 n1 d1))
           (first | go_keep | exact HCC.out _ hG7 | fail)
           (first | (go_at_call 78; (with_reducible refine HLE.out.mono ?_); rintro e w7 ⟨rfl, hG7⟩) | fail)
          have hlp7 := (HLP.out.kept hgd (by simp)).kept hG7 (by simp)
          have hg7 := zA (zA hg hgd (by simp)) hG7 (by simp)
          have k1 := zQ (zQ hc1' hgd) hG7
          have k2 := zQ (zQ hc2' hgd) hG7
          rcases id hlp7.own.2 with ⟨e1, _⟩ | ⟨g', cap, cur, e1, _, hgk, _, _, _, _⟩
          ·simp at e1
          simp only [Value.slice.injEq, Option.some.injEq, Addr.mk.injEq, and_true] at e1
          obtain ⟨rfl, _, rfl⟩ := e1
          have f1 := frozen_of_row w7 g k _ _ hgk
          have f2 := frozen_of_row w7 g j _ _ hgk
          have HLP7 := Kh hlp7; have HG7 := Kh hg7; have HGK := Kh hgk
          clear hlp7 hg7 hgk hg hgd hG7 hc1' hc2' HLP HLE
          go_wp2
          go_region
          all_goals
           go_wp2
           go_roundg k
           case measure => have := HJK.out; omega
           case rel =>
            have e9 := HJK.out
            subst e9
            obtain ⟨hsw, hgs⟩ := HLP7.out.drewN.swap HS1.out HS2.out HP1.out HP2.out (W := _) (by first | exact .inl rfl | exact .inr rfl)
            exact ⟨k, _, _, rfl, by omega, by go_num, hsw, HST, zA (zA HG7.out (zP w7 none) (by simp)) hgs (fun x e => by have : g = x := Option.some.inj e; omega)⟩
      ·obtain rfl : q = NL := by have := HGH.out; omega
       have hpl := hlp.len
       have hps : ps = famP 6 L i M := HFIN.out ps (by have := hso.out.1; rwa [hpl, List.take_length] at this) hso.out.2
       have HPS := Kh hps; have HPL := Kh hpl
       clear hps hpl hlp hso
       go_wp2
       refine bodyPost_ret (v := .tuple #[.slice SL q SC, .int .i64 0]) (by simp [results, Try.results45, go_sem]) rfl ?_
       rw [HFS.out.1, HFS.out.2, ← HPS.out]
       exact ⟨SL, SC, sv, by rw [← HPL.out], by rw [← HPL.out]; exact RowT.of_owns HLP.out.own, HLP.out.rows, hg⟩
end Go.Proofs.Ytjfdomfendbhfaa
