/- Part 28 of the proof: CVal, CDec, MatchW. -/
import Derived.Test.YtjfdomfendbhfaaQb27
set_option linter.unusedVariables false
set_option linter.unusedSimpArgs false
namespace Go.Proofs.Ytjfdomfendbhfaa
open Go.RowKit
set_option maxRecDepth 100000 in
set_option maxHeartbeats 800000 in
theorem cvalid_any (B : Nat) (w : World) (v : Value) (g : DiaV) (letters : Int) (hB : B ≤ w.heap.size) (h : lH B w v g) :
  Calls Try.prog 9 #[v, .int .i64 letters] w fun e w' => e = .returned (.int .i64 (diaE g letters)) ∧ w.grownBy w' none := by
 obtain ⟨pv, cv, rfl, hp, hc⟩ := h
 obtain ⟨pa, pc, rfl⟩ := hp.shape
 obtain ⟨ca, cc, rfl⟩ := hc.shape
 have hpl := hp.len_le
 have hcl := hc.len_le
 unfold maxLen at hpl hcl
 obtain ⟨ps, cs, root⟩ := g
 simp only at hp hc hpl hcl ⊢
 obtain ⟨np, hnp⟩ : ∃ n, n = ps.length := ⟨_, rfl⟩
 obtain ⟨nc, hnc⟩ : ∃ n, n = cs.length := ⟨_, rfl⟩
 rw [← hnp] at hp hpl ⊢
 rw [← hnc] at hc hcl ⊢
 have hg1 := World.grownBy_alloc w (.cells #[.slice pa np pc, .slice ca nc cc, .int .i64 root] 25) none
 have hb1 := heap_alloc_new w (.cells #[.slice pa np pc, .slice ca nc cc, .int .i64 root] 25)
 obtain ⟨wA, hWA⟩ : ∃ w1, w1 = w.alloc (.cells #[.slice pa np pc, .slice ca nc cc, .int .i64 root] 25) := ⟨_, rfl⟩
 obtain ⟨P, hP⟩ : ∃ P, P = w.heap.size := ⟨_, rfl⟩
 rw [← hWA] at hg1 hb1
 rw [← hP] at hb1
 have hp1 := hp.kept hg1 (by simp)
 have hc1 := hc.kept hg1 (by simp)
 obtain ⟨p0, p1, p2⟩ := zW hb1
 have hzA := hg1.size
 have HNP := Kh hnp; have HNC := Kh hnc
 have HPS := Kh hp1; have HCS := Kh hc1; have HB1 := Kh hb1
 have HWA := Kh hWA; have HPE := Kh hP; have HGA := Kh hg1
 have HBW : Hid (B ≤ wA.heap.size) := Kh (by omega)
 clear hp hc hp1 hc1 hg1 hb1 hWA hP hnp hnc hzA
 go_enter Try.func9, Try.ntmps9
 go_upto_region 1 with fail
 rw [← HWA.out, ← HPE.out]
 by_cases h1 : letters < 1
 ·go_wp2
  go_ret
  exact ⟨yE (diaE_arg (.inl h1)).symm, HGA.out⟩
 by_cases h2 : 6 < letters
 ·go_wp2
  go_ret
  exact ⟨yE (diaE_arg (.inr h2)).symm, HGA.out⟩
 have H1 : Hid (¬ (letters < 1 ∨ 6 < letters)) := Kh (by omega)
 by_cases h3 : 300 < np
 ·have h3' : (300 : Int) < np := by omega
  go_wp2
  go_ret
  exact ⟨yE (diaE_lim H1.out (.inl (by rw [← HNP.out]; exact h3))).symm, HGA.out⟩
 have h3' : ¬ (300 : Int) < np := by omega
 by_cases h4 : 20000 < nc
 ·have h4' : (20000 : Int) < nc := by omega
  go_wp2
  go_ret
  exact ⟨yE (diaE_lim H1.out (.inr (by rw [← HNC.out]; exact h4))).symm, HGA.out⟩
 have h4' : ¬ (20000 : Int) < nc := by omega
 have H3 : Hid (¬ (300 < ps.length ∨ 20000 < cs.length)) := Kh (by rw [← HNP.out, ← HNC.out]; omega)
 go_wp2
 go_loopg [6, 7, 29] np (fun gh s6 s7 i wr => ∃ k : Nat, gh + k = np ∧ i = .int .i64 k ∧ vL letters (ps.drop k) = vL letters ps ∧ wA.grownBy wr none)
 case atStart => exact ⟨0, rfl, rfl, rfl, zL _ _⟩
 case round =>
  obtain ⟨k, hgh, rfl, hpe, hg⟩ := hrel
  have HGH := Kh hgh; have HG := Kh hg; have HPEE := Kh hpe
  clear hgh hpe
  by_cases hk : k < np
  ·have hk' : (k : Int) < np := by omega
   have hps := HPS.out.kept hg (by simp)
   obtain ⟨b, off, cap, e, hbB, hb2, hb3, hall⟩ := hps.at_ (by rw [← HNP.out]; omega)
   rw [← HNP.out] at e hb2 hall
   simp only [Value.slice.injEq, true_and] at e
   obtain ⟨rfl, rfl⟩ := e
   obtain ⟨sa, sc, c1, hrow, hsz⟩ := hall k hk
   obtain ⟨q, hq⟩ : ∃ q, q = ps.getD k [] := ⟨_, rfl⟩
   rw [← hq] at c1 hrow hsz
   have hmx : pc ≤ 9223372036854775807 := by unfold maxLen at hb3; omega
   have HV : Hid (∀ W : World, wr.grownBy W none → Calls Try.prog 36 #[.agg #[.slice sa q.length sc], .int .i64 letters] W fun e w' => e = .returned (.int .i64 (patW q letters)) ∧ wA.grownBy w' none) := Kh (fun W hW => (nY B W _ q letters (hrow.kept hW (by simp)) hsz).mono fun e w' ⟨he, hg'⟩ => ⟨he, zA HG.out (zF hW hg') (by simp)⟩)
   have HQ := Kh hq
   obtain ⟨E, hE⟩ : ∃ E, E = patW q letters := ⟨_, rfl⟩
   rw [← hE] at HV
   have HE := Kh hE
   obtain ⟨ql, hql⟩ : ∃ n, n = q.length := ⟨_, rfl⟩
   rw [← hql] at c1 HV
   clear hps hall hrow hsz hq hg hE hql
   go_wp2_with fail
   refine (HV.out _ (World.grownBy_alloc wr _ none)).mono ?_
   rintro e w1 ⟨rfl, hg1⟩
   have HG1 := Kh hg1
   clear hg1 HV
   by_cases hE : E = 0
   ·have e1 : (E != 0) = false := by simp [hE]
    have HE0 := Kh hE
    clear hE
    go_wp2
    go_roundg (np - (k + 1))
    case measure => have := HGH.out; omega
    case rel => exact ⟨k + 1, by have := HGH.out; omega, by go_num, (patsE_step (by rw [← HNP.out]; exact hk) (by rw [← HQ.out, ← HE.out]; exact HE0.out)).trans HPEE.out, HG1.out⟩
   ·have e1 : (E != 0) = true := by rw [bne_iff_ne]; exact hE
    have HE0 := Kh hE
    clear hE
    go_wp2
    go_ret
    exact ⟨yE (by rw [diaE_pat (g := ⟨ps, cs, root⟩) H1.out H3.out (k := k) (by rw [← HNP.out]; exact hk) HPEE.out (by rw [← HQ.out, ← HE.out]; exact HE0.out)]; show E = patW (ps.getD k []) letters; rw [← HQ.out, ← HE.out]), zA HGA.out (HG1.out) (by simp)⟩
  ·have hkn : k = np := by have := HGH.out; omega
   have HPZ : Hid (vL letters ps = 0) := Kh (by rw [← HPEE.out]; exact patsE_end (by rw [← HNP.out]; exact hk))
   have HDE : Hid (diaE ⟨ps, cs, root⟩ letters = chosE ps.length cs root) := Kh (diaE_cho H1.out H3.out HPZ.out)
   have hkn' : ¬ (k : Int) < np := by omega
   obtain ⟨p0, p1, p2⟩ := zW (zB HB1.out hg (by simp))
   clear hkn hg HGH hpl
   go_wp2
   clear p0 p1 p2
   go_loopg [8, 9, 43] nc (fun gh s8 s9 i wr => ∃ k : Nat, gh + k = nc ∧ i = .int .i64 k ∧ wF ps.length cs k ∧ wA.grownBy wr none)
   case atStart => exact ⟨0, rfl, rfl, chosTo_zero _ _, HG.out⟩
   case round =>
    clear HG hkn' hk
    obtain ⟨k, hgh, rfl, hct, hg⟩ := hrel
    have HGH := Kh hgh; have HG := Kh hg; have HCT := Kh hct
    clear hgh hct
    by_cases hk : k < nc
    ·have hk' : (k : Int) < nc := by omega
     have hcs := HCS.out.kept hg (by simp)
     have HCR := Kh hcs
     obtain ⟨b, off, cap, e, hbB, hb2, hb3, hch⟩ := hcs.at_ (by rw [← HNC.out]; omega)
     rw [← HNC.out] at e hb2
     simp only [Value.slice.injEq, true_and] at e
     obtain ⟨rfl, rfl⟩ := e
     have hmx : cc ≤ 9223372036854775807 := by unfold maxLen at hb3; omega
     have hkc : k < cs.length := by rw [← HNC.out]; exact hk
     have c1 := hch.p k hkc
     have c2 := hch.y k hkc
     have c3 := hch.n k hkc
     have HVR : Hid (∀ (W : World) (r : Int), wr.grownBy W none → Calls Try.prog 37 #[.agg #[.slice pa np pc, .slice (some ⟨b, off, none⟩) nc cc, .int .i64 root], .int .i64 (k : Int), .int .i64 r] W fun e w' => e = .returned (.bool (refB cs k (cs.getD k default).p r)) ∧ W.grownBy w' none) := Kh (fun W r hW => validRef_any B W _ _ root cs k r (HCR.out.kept hW (by simp)) hkc)
     obtain ⟨c, hcc⟩ : ∃ c, c = cs.getD k default := ⟨_, rfl⟩
     rw [← hcc] at c1 c2 c3 HVR
     have HC := Kh hcc
     have hCB : Hid (choB ps.length cs k = (decide (0 ≤ c.p ∧ c.p < np) && (refB cs k c.p c.y && refB cs k c.p c.n))) := Kh (by
      rw [hcc, HNP.out]; rfl)
     clear hcs hch hkc hcc
     obtain ⟨x, y, n⟩ := c
     simp only at c1 c2 c3 HVR hCB
     obtain ⟨by_, hby⟩ : ∃ b, b = refB cs k x y := ⟨_, rfl⟩
     obtain ⟨bn, hbn⟩ : ∃ b, b = refB cs k x n := ⟨_, rfl⟩
     have HVY := Kh (fun W hW => HVR.out W y hW)
     have HVN := Kh (fun W hW => HVR.out W n hW)
     rw [← hby] at HVY hCB
     rw [← hbn] at HVN hCB
     have hb2 := heap_alloc_new wr (.cells #[.int .i64 x, .int .i64 y, .int .i64 n] 45)
     have hg2 := World.grownBy_alloc wr (.cells #[.int .i64 x, .int .i64 y, .int .i64 n] 45) none
     obtain ⟨w2, hw2⟩ : ∃ w2, w2 = wr.alloc (.cells #[.int .i64 x, .int .i64 y, .int .i64 n] 45) := ⟨_, rfl⟩
     obtain ⟨R, hR⟩ : ∃ R, R = wr.heap.size := ⟨_, rfl⟩
     rw [← hw2] at hb2 hg2
     rw [← hR] at hb2
     have HW2 := Kh hw2; have HRE := Kh hR; have HB2 := Kh hb2; have HG2 := Kh hg2
     have HBP2 := Kh (zB (zB HB1.out hg (by simp)) hg2 (by simp))
     obtain ⟨p0, p1, p2⟩ := zW HBP2.out
     obtain ⟨r0, r1, r2⟩ := zW hb2
     clear hby hbn hw2 hR hb2 hg2 hg HVR
     go_upto_region 15 with fail
     rw [← HW2.out, ← HRE.out]
     clear c1 c2 c3
     by_cases hx0 : x < 0
     ·have HF : Hid (choB ps.length cs k = false) := Kh (by rw [hCB.out, show decide (0 ≤ x ∧ x < (np : Int)) = false by simp; omega]; rfl)
      go_wp2
      go_ret
      exact ⟨yE (by rw [HDE.out, mG (by rw [← HNC.out]; exact hk) HF.out]), zA HGA.out (zA HG.out HG2.out (by simp)) (by simp)⟩
     by_cases hx1 : (np : Int) ≤ x
     ·have HF : Hid (choB ps.length cs k = false) := Kh (by rw [hCB.out, show decide (0 ≤ x ∧ x < (np : Int)) = false by simp; omega]; rfl)
      go_wp2
      go_ret
      exact ⟨yE (by rw [HDE.out, mG (by rw [← HNC.out]; exact hk) HF.out]), zA HGA.out (zA HG.out HG2.out (by simp)) (by simp)⟩
     have hx2 : decide (0 ≤ x ∧ x < (np : Int)) = true := by simp; omega
     rw [hx2, Bool.true_and] at hCB
     clear hx2
     go_wp2_with fail
     refine (HVY.out _ HG2.out).mono ?_
     rintro e w3 ⟨rfl, hg3⟩
     have HG3 := Kh hg3
     have HBP3 := Kh (zB HBP2.out hg3 (by simp))
     have HB3 := Kh (zB HB2.out hg3 (by simp))
     obtain ⟨p0, p1, p2⟩ := zW HBP3.out
     obtain ⟨r0, r1, r2⟩ := zW HB3.out
     clear hg3 HVY
     cases by_ with
     | false =>
      have HF : Hid (choB ps.length cs k = false) := Kh (by rw [hCB.out]; rfl)
      go_wp2
      go_ret
      exact ⟨yE (by rw [HDE.out, mG (by rw [← HNC.out]; exact hk) HF.out]), zA HGA.out (zA (zA HG.out HG2.out (by simp)) HG3.out (by simp)) (by simp)⟩
     | true =>
      rw [Bool.true_and] at hCB
      go_wp2_with fail
      refine (HVN.out _ (zF HG2.out HG3.out)).mono ?_
      rintro e w4 ⟨rfl, hg4⟩
      have HG4 := Kh hg4
      clear hg4 HVN
      cases bn with
      | false =>
       have HF : Hid (choB ps.length cs k = false) := Kh hCB.out
       go_wp2
       go_ret
       exact ⟨yE (by rw [HDE.out, mG (by rw [← HNC.out]; exact hk) HF.out]), zA HGA.out (zA (zA (zA HG.out HG2.out (by simp)) HG3.out (by simp)) HG4.out (by simp)) (by simp)⟩
      | true =>
       go_wp2
       go_roundg (nc - (k + 1))
       case measure => have := HGH.out; omega
       case rel => exact ⟨k + 1, by have := HGH.out; omega, by go_num, iI HCT.out hCB.out, zA (zA (zA HG.out HG2.out (by simp)) HG3.out (by simp)) HG4.out (by simp)⟩
    ·have hkn' : ¬ (k : Int) < nc := by omega
     have HCE := Kh (chosE_end (root := root) (by rw [← HNC.out]; exact hk) HCT.out)
     rw [← HNC.out] at HCE
     obtain ⟨p0, p1, p2⟩ := zW (zB HB1.out hg (by simp))
     clear hg
     by_cases h5 : root < 0
     ·go_wp2
      go_ret
      exact ⟨yE (by rw [HDE.out, HCE.out, if_neg (by omega)]), zA HGA.out (HG.out) (by simp)⟩
     by_cases h6 : 1 + (nc : Int) < root
     ·go_wp2
      go_ret
      exact ⟨yE (by rw [HDE.out, HCE.out, if_neg (by omega)]), zA HGA.out (HG.out) (by simp)⟩
     go_wp2
     go_ret
     exact ⟨yE (by rw [HDE.out, HCE.out, if_pos (by omega)]), zA HGA.out (HG.out) (by simp)⟩
set_option maxRecDepth 100000 in
set_option maxHeartbeats 800000 in
theorem cdecide_any (B : Nat) (w : World) (v : Value) (g : DiaV) (m : Nat → Bool) (fid : FuncId) (caps : Array Value) (h : lH B w v g) (hc : wF g.pats.length g.chos g.chos.length) (h0 : 0 ≤ g.root) (h1 : g.root ≤ 1 + (g.chos.length : Int))
  (hE : ∀ (args : Array Value) (W : World), Sem.run Try.prog (callFunc fid args) W = .ok (.enter fid args) W)
  (hF : ∀ (W : World) (p : Nat), w.grownBy W none → p < g.pats.length → Calls Try.prog fid (#[.int .i64 (p : Int)] ++ caps) W fun e w' => e = .returned (.bool (m p)) ∧ W.grownBy w' none) :
  Calls Try.prog 40 #[v, .func (.func fid) #[] caps] w fun e w' => e = .returned (.bool (decG g.chos m g.root)) ∧ w.grownBy w' none := by
 obtain ⟨pv, cv, rfl, hp, hcs⟩ := h
 obtain ⟨ca, cc, rfl⟩ := hcs.shape
 have hcl := hcs.len_le
 unfold maxLen at hcl
 obtain ⟨ps, cs, root⟩ := g
 simp only at hp hc hcs hcl h0 h1 hF ⊢
 obtain ⟨r0, rfl⟩ : ∃ n : Nat, root = (n : Int) := ⟨root.toNat, by omega⟩
 obtain ⟨nc, hnc⟩ : ∃ n, n = cs.length := ⟨_, rfl⟩
 rw [← hnc] at hcs hcl h1 ⊢
 have hg1 := World.grownBy_alloc w (.cells #[pv, .slice ca nc cc, .int .i64 (r0 : Int)] 25) none
 have hb1 := heap_alloc_new w (.cells #[pv, .slice ca nc cc, .int .i64 (r0 : Int)] 25)
 obtain ⟨wA, hWA⟩ : ∃ w1, w1 = w.alloc (.cells #[pv, .slice ca nc cc, .int .i64 (r0 : Int)] 25) := ⟨_, rfl⟩
 obtain ⟨P, hP⟩ : ∃ P, P = w.heap.size := ⟨_, rfl⟩
 rw [← hWA] at hg1 hb1
 rw [← hP] at hb1
 have hc1 := hcs.kept hg1 (by simp)
 obtain ⟨p0, p1, p2⟩ := zW hb1
 have HNC := Kh hnc
 have HCS := Kh hc1; have HB1 := Kh hb1; have HOK := Kh hc
 have HWA := Kh hWA; have HPE := Kh hP; have HGA := Kh hg1
 have HE := Kh hE
 have HF := Kh hF; have HR0 := Kh h1
 obtain ⟨ans, hans⟩ : ∃ b, b = decG cs m (r0 : Int) := ⟨_, rfl⟩
 rw [← hans]
 have HANS := Kh hans
 clear hp hcs hc1 hg1 hb1 hWA hP hnc hc h1 h0 hF hE hans
 go_enter Try.func40, Try.ntmps40
 go_upto_region 1 with fail
 rw [← HWA.out, ← HPE.out]
 go_wp2
 clear p0 p1 p2
 go_loopg [5, 6] r0 (fun gh r s6 wr => ∃ q : Nat, gh = q ∧ r = .int .i64 q ∧ q ≤ 1 + nc ∧ decG cs m q = ans ∧ wA.grownBy wr none)
 case atStart => exact ⟨r0, rfl, rfl, by have := HR0.out; omega, HANS.out.symm, zL _ _⟩
 case round =>
  obtain ⟨q, hgq, rfl, hq1, hdec, hg⟩ := hrel
  have HGQ := Kh hgq
  clear hgq
  have HG := Kh hg; have HDEC := Kh hdec
  clear hdec
  by_cases hq : 2 ≤ q
  ·have hq' : (2 : Int) ≤ q := by omega
   obtain ⟨i, rfl⟩ : ∃ i, q = i + 2 := ⟨q - 2, by omega⟩
   have hi : i < nc := by omega
   have hcsr := HCS.out.kept hg (by simp)
   obtain ⟨b, off, cap, e, hbB, hb2, hb3, hch⟩ := hcsr.at_ (by rw [← HNC.out]; omega)
   rw [← HNC.out] at e hb2
   simp only [Value.slice.injEq, true_and] at e
   obtain ⟨rfl, rfl⟩ := e
   have hmx : cc ≤ 9223372036854775807 := by unfold maxLen at hb3; omega
   have hic : i < cs.length := by rw [← HNC.out]; exact hi
   have c1 := hch.p i hic
   have c2 := hch.y i hic
   have c3 := hch.n i hic
   have hst := iD (m := m) HOK.out (r := ((i + 2 : Nat) : Int)) (by omega) (by omega)
   have e0 : ((i + 2 : Nat) : Int).toNat - 2 = i := by omega
   rw [e0] at hst
   have hcf := pT (HOK.out i hic)
   obtain ⟨c, hcc⟩ : ∃ c, c = cs.getD i default := ⟨_, rfl⟩
   rw [← hcc] at c1 c2 c3 hst hcf
   clear hcsr hch hic hcc
   obtain ⟨x, y, n⟩ := c
   simp only at c1 c2 c3 hst hcf
   obtain ⟨xn, rfl⟩ : ∃ k : Nat, x = (k : Int) := ⟨x.toNat, by omega⟩
   obtain ⟨yn, rfl⟩ : ∃ k : Nat, y = (k : Int) := ⟨y.toNat, by omega⟩
   obtain ⟨nn, rfl⟩ : ∃ k : Nat, n = (k : Int) := ⟨n.toNat, by omega⟩
   rw [Int.toNat_natCast] at hst
   have hxn : xn < ps.length := by omega
   have hyn : yn < i + 2 := by omega
   have hnn : nn < i + 2 := by omega
   have HST := Kh hst
   have HCALL := Kh (fun (W : World) (hW : wr.grownBy W none) => HF.out W xn (zA HGA.out (zA HG.out hW (by simp)) (by simp)) hxn)
   obtain ⟨b, hb⟩ : ∃ b, b = m xn := ⟨_, rfl⟩
   rw [← hb] at HST HCALL
   obtain ⟨p0, p1, p2⟩ := zW (zB HB1.out hg (by simp))
   have hb2 := heap_alloc_new wr (.cells #[.int .i64 (xn : Int), .int .i64 (yn : Int), .int .i64 (nn : Int)] 45)
   have hg2 := World.grownBy_alloc wr (.cells #[.int .i64 (xn : Int), .int .i64 (yn : Int), .int .i64 (nn : Int)] 45) none
   obtain ⟨w2, hw2⟩ : ∃ w2, w2 = wr.alloc (.cells #[.int .i64 (xn : Int), .int .i64 (yn : Int), .int .i64 (nn : Int)] 45) := ⟨_, rfl⟩
   obtain ⟨R, hR⟩ : ∃ R, R = wr.heap.size := ⟨_, rfl⟩
   rw [← hw2] at hb2 hg2
   rw [← hR] at hb2
   have HW2 := Kh hw2; have HRE := Kh hR; have HB2 := Kh hb2; have HG2 := Kh hg2
   obtain ⟨r0, r1, r2⟩ := zW hb2
   have e2 : IntKind.i64.wrap ((i + 2 : Nat) - 2 : Int) = (i : Int) := by rw [show ((i + 2 : Nat) - 2 : Int) = i by omega]; exact tV (by omega)
   have e3 : ((i + 2 : Nat) - 2 : Int) = (i : Int) := by omega
   have hi' : (i : Int) < nc := by omega
   clear hb hw2 hR hb2 hg2 hg hst hcf hq1
   go_upto_region 4 with fail
   rw [← HW2.out, ← HRE.out]
   clear c1 c2 c3
   go_wp2_with fail
   rw [HE.out, Oper.upon_enter]
   refine (HCALL.out _ HG2.out).mono ?_
   rintro e w3 ⟨rfl, hg3⟩
   have HG3 := Kh hg3
   obtain ⟨r0, r1, r2⟩ := zW (zB HB2.out hg3 (by simp))
   clear hg3 HCALL
   cases b with
   | true =>
    go_wp2
    go_roundg yn
    case measure => have := HGQ.out; omega
    case rel => exact ⟨yn, rfl, rfl, by omega, by rw [← HDEC.out]; exact HST.out.symm, zA (zA HG.out HG2.out (by simp)) HG3.out (by simp)⟩
   | false =>
    go_wp2
    go_roundg nn
    case measure => have := HGQ.out; omega
    case rel => exact ⟨nn, rfl, rfl, by omega, by rw [← HDEC.out]; exact HST.out.symm, zA (zA HG.out HG2.out (by simp)) HG3.out (by simp)⟩
  ·have hq' : ¬ (2 : Int) ≤ q := by omega
   have HA : Hid (decide ((q : Int) = 1) = ans) := Kh (by rw [← HDEC.out, decG_low _ _ (by omega)])
   clear hg
   go_wp2
   go_ret
   exact ⟨zZ (by rw [← HA.out]; first | rfl | simp | decide), zA HGA.out HG.out (by simp)⟩
set_option maxRecDepth 100000 in
set_option maxHeartbeats 400000 in
theorem match_anyW (b off cap : Nat) (bs : List ByteArray) (s : ByteArray) (w : World) (hcap : bs.length ≤ cap) (hcm : cap ≤ maxLen)
  (hra : vU w b off (bs.map .string)) (hs : ∀ i (h : i < bs.length), bs[i].size ≤ maxLen) (hss : s.size ≤ maxLen) (hL : SomeLen w) :
  Calls Try.prog 42 #[.agg #[.slice (some ⟨b, off, none⟩) bs.length cap], .string s] w fun e w' => e = .returned (.bool (yG bs s)) ∧ w.grownBy w' none := by
 have hss' : s.size ≤ 9223372036854775807 := by unfold maxLen at hss; omega
 have g0 := World.grownBy_alloc w (.cells #[.slice (some ⟨b, off, none⟩) bs.length cap] 28) none
 have ra0 := hra.kept g0 (by simp)
 go_enter Try.func42, Try.ntmps42
 go_wp2_with fail
 have bx0 := heap_alloc_new w (.cells #[.slice (some ⟨b, off, none⟩) bs.length cap] 28)
 have hrow : Row (b + 1) (w.alloc (.cells #[.slice (some ⟨b, off, none⟩) bs.length cap] 28)) (.slice (some ⟨b, off, none⟩) bs.length cap) (txtV bs) := .inr ⟨b, off, cap, by rw [yA], by omega, by rw [yA]; exact hcap, hcm, ra0⟩
 refine (nY (b + 1) _ _ bs 6 hrow hs).mono ?_
 rintro e w1 ⟨rfl, g1⟩
 have ra1 := ra0.kept g1 (by simp)
 have hc1 := zO (zB bx0 g1 (by simp)) 0 (by simp)
 simp only [List.getElem_toArray, List.getElem_cons_zero] at hc1
 have hL1 := (hL.kept g0 (by simp)).kept g1 (by simp)
 have gw := zF g0 g1
 clear g0 ra0 bx0 g1 hra
 clear hrow
 have hEV : patW bs 6 = 0 ↔ yJ bs 6 = 0 := wO
 obtain ⟨E, hEE⟩ : ∃ E, E = patW bs 6 := ⟨_, rfl⟩
 rw [← hEE] at hEV ⊢
 have HEE := Kh hEE
 clear hEE
 by_cases hV : yJ bs 6 = 0
 ·have hE0 : E = 0 := hEV.2 hV
  subst hE0
  clear hEV
  have HV := Kh hV; clear hV
  go_wp2_with fail
  refine (tW s 6 _ (by unfold maxLen; omega)).mono ?_
  rintro e w2 ⟨rfl, rfl⟩
  have hz := wD HV.out
  have hn0 : 0 < bs.length := hz.2.2.2.2.1
  have hn8 : bs.length ≤ 8 := hz.2.2.1
  have hc0 := ra1.map 0 hn0
  rw [Nat.add_zero] at hc0
  have hcm' : cap ≤ 9223372036854775807 := by unfold maxLen at hcm; omega
  have hCM := Kh hcm; clear hz hcm
  by_cases hW : zU s 6 = true
  ·by_cases h1 : bs.length = 1
   ·have h1' : ((bs.length : Int) - 1 == 0) = true := by simp [h1]
    have H1 := Kh h1; clear h1
    go_wp2
    go_ret
    exact ⟨zZ (patMatch_one HV.out hW H1.out hn0).symm, gw⟩
   ·have h1' : ((bs.length : Int) - 1 == 0) = false := by rw [beq_eq_false_iff_ne]; omega
    go_wp2_with fail
    refine (Try.strings_CutPrefix _ _ _).mono ?_
    rintro e w2 ⟨rfl, rfl⟩
    by_cases hP : Lib.hasPrefix s.data.toList bs[0].data.toList = true
    ·go_wp2
     go_loopw [6, 46] (fun rs i wr => ∃ (k : Nat) (r : List UInt8), k ≤ bs.length - 1 - 1 ∧ i = .int .i64 k ∧ rs = .string ⟨r.toArray⟩ ∧ r.length ≤ 2048 ∧
       tT ((mid bs).drop k) r = tT (mid bs) (Lib.trimPrefix s.data.toList bs[0].data.toList) ∧
       vU wr b off (bs.map .string) ∧ wr.cell? ⟨w.heap.size, 0, none⟩ = some (.slice (some ⟨b, off, none⟩) bs.length cap) ∧ SomeLen wr ∧ w.grownBy wr none)
      (fun _ i _ => bs.length - (intOf i).toNat)
     case atStart => exact ⟨0, _, Nat.zero_le _, rfl, rfl, trim_le HV.out hW, rfl, ra1, hc1, hL1, gw⟩
     case round =>
      clear ra1 hc1 hL1 gw hc0
      obtain ⟨k, r, hk, rfl, rfl, hrl, hfind, rar, hcr, hLr, gr⟩ := hrel
      have HF := Kh hfind; clear hfind
      by_cases hlt : k < bs.length - 1 - 1
      ·have hck := rar.map (1 + k) (by omega)
       rw [← Nat.add_assoc] at hck
       have hlt' : (k : Int) < ((bs.length - 1 - 1 : Nat) : Int) := by omega
       go_wp2_with fail
       obtain ⟨_, m, hm⟩ := id hLr
       refine (Try.strings_Cut _ _ m _ (by
        have : (ByteArray.mk r.toArray).size = r.toArray.size := rfl
        rw [this, List.size_toArray]; omega) hm).mono ?_
       rintro e w3 ⟨rfl, m', rfl⟩
       have hcl := cut_le r bs[1 + k].data.toList
       by_cases hf : (Lib.cut r bs[1 + k].data.toList).2.2 = true
       ·go_wp2
        go_roundw
        case rel =>
         exact ⟨k + 1, _, by omega, by go_num, rfl, by omega, by rw [← HF.out]; exact findAll_step bs r k hlt hf, rar.of_heap rfl, hcr, hLr.kept (zT _ _ none) (by simp), zF gr (zT _ _ _)⟩
        case measure => simp [intOf]; omega
       ·go_wp2
        go_ret
        exact ⟨zZ (by rw [eq_comm]; exact patMatch_none (by omega) (by omega) (by rw [← HF.out]; exact findAll_stop bs r k hlt hf)), zF gr (zT _ _ _)⟩
      ·have hcl := rar.map (bs.length - 1) (by omega)
       have hi1 : ((bs.length : Int) - 1).toNat = bs.length - 1 := by omega
       have hi2 : (bs.length : Int) - 1 < bs.length := by omega
       have hi3 : 0 ≤ (bs.length : Int) - 1 := by omega
       go_wp2_with fail
       refine (Try.strings_HasSuffix _ _ _ (by
        have : (ByteArray.mk r.toArray).size = r.toArray.size := rfl
        rw [this, List.size_toArray]; omega)).mono ?_
       rintro e w3 ⟨rfl, rfl⟩
       go_wp2
       go_ret
       refine ⟨zZ ?_, gr⟩
       rw [eq_comm]
       refine patMatch_end HV.out hW (by omega) (by omega) hP ?_
       rw [← HF.out, List.drop_eq_nil_of_le (by rw [sE]; omega)]
       rfl
    ·go_wp2
     go_ret
     exact ⟨zZ (by rw [eq_comm]; exact patMatch_nopre (by omega) (by omega) hP), gw⟩
  ·go_wp2
   go_ret
   exact ⟨zZ (by simp [yG, hW]), gw⟩
 ·have hV'' : (E != 0) = true := by rw [bne_iff_ne]; exact fun e => hV (hEV.1 e)
  have hV' : (E == 0) = false := by rw [beq_eq_false_iff_ne]; exact fun e => hV (hEV.1 e)
  clear hEV
  have HV := Kh hV; clear hV
  go_wp2
  go_ret
  exact ⟨zZ (by simp [yG, HV.out]), gw⟩
end Go.Proofs.Ytjfdomfendbhfaa
