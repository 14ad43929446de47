/- Part 44 of the proof: MAny, Letters, Table40, RClos, LSame, Known40, Law40S, Law40R, Laid40. -/
import Derived.Test.YtdjhoadoiknaoaaDoorZr43
import Derived.LaidMore
import Derived.Lib.LaidTab
import Derived.Stop.Joined
set_option linter.unusedVariables false
set_option linter.unusedSimpArgs false
namespace Go.Proofs.YtdjhoadoiknaoaaDoor
open Go.RowKit
def AnyD (m : DfaV) (n : Nat) : Prop := OrdD m n ∨ PermD m n ∨ DefD m n ∨ True
theorem DealtDfa.r {B tb : Nat} {w : World} {letters most : Nat} {e : Ending} {w' : World} (h : DealtDfa B tb w letters most e w') : DealtR (fun _ _ => True) B tb w letters most e w' := by
 obtain ⟨v, m, n, h1, h2, h3, h4, h6, h7⟩ := h
 exact ⟨v, m, n, h1, h2, h3, h4, trivial, h6, h7⟩
set_option maxRecDepth 100000 in
set_option maxHeartbeats 4000000 in
theorem many_any (B tb : Nat) (w : World) (letters most : Nat) (h1 : 1 ≤ letters) (h2 : letters ≤ 2) (hm1 : 1 ≤ most) (hm : most ≤ 500) (hT : xK B w tb) :
  Calls Tryd.prog 50 #[.pointer (some ⟨tb, 0, none⟩), .int .i64 (letters : Int), .int .i64 (most : Int)] w (DealtR AnyD B tb w letters 500) := by
 have htb := hT.lt
 have hBt := hT.ge
 obtain ⟨P, hP⟩ : ∃ P, P = w.heap.size := ⟨_, rfl⟩
 have HPE := Kh hP
 obtain ⟨wA, hWA⟩ : ∃ wA, wA = w.alloc (.cells #[.int .i64 0, .int .i64 0, .slice none 0 0, .slice none 0 0] 28) := ⟨_, rfl⟩
 have hbA := heap_alloc_new w (.cells #[.int .i64 0, .int .i64 0, .slice none 0 0, .slice none 0 0] 28)
 have hgA := World.grownBy_alloc w (.cells #[.int .i64 0, .int .i64 0, .slice none 0 0, .slice none 0 0] 28) none
 have hzA := zN w (.cells #[.int .i64 0, .int .i64 0, .slice none 0 0, .slice none 0 0] 28)
 rw [← hWA] at hbA hgA hzA
 rw [← hP] at hbA hzA htb
 have HTA := Kh (hT.kept hgA (by simp))
 have HBA := Kh hbA; have HGA := Kh hgA; have HWA := Kh hWA
 clear hbA hgA hWA hT
 go_enter Tryd.func50, Tryd.ntmps50
 go_upto_region 1 with fail
 rw [← HWA.out, ← HPE.out]
 clear hP
 go_wp2_with fail
 refine (uJ B tb _ _ (by omega) HTA.out).mono ?_
 rintro e w1 ⟨r, rfl, hr0, hr1, hT1, hg1⟩
 replace hr1 := hr1 (by omega)
 have HB1 := Kh (zE HBA.out hg1 (by simp; omega))
 have HG1 := Kh (zF (zG (zS w (some tb)) HGA.out (by simp)) hg1)
 have HT1 := Kh hT1
 have hz1 := hg1.size
 clear hT1 hg1 HTA HBA
 have fin : ∀ (R : DfaV → Nat → Prop) (mo : Nat) (e : Ending) (w2 : World), (∀ m n, R m n → AnyD m n) → mo ≤ 500 → DealtR R B tb w1 letters mo e w2 → ∃ (v : Value) (y0 y1 : Int) (y2 y3 : Option Addr) (n2 n3 c2 c3 : Nat), e = .returned v ∧ v = .agg #[.int .i64 y0, .int .i64 y1, .slice y2 n2 c2, .slice y3 n3 c3] ∧ w2.cell? ⟨P, 0, none⟩ = some (.int .i64 0) ∧ w2.cell? ⟨P, 1, none⟩ = some (.int .i64 0) ∧ w2.cell? ⟨P, 2, none⟩ = some (.slice none 0 0) ∧ w2.cell? ⟨P, 3, none⟩ = some (.slice none 0 0) ∧ (∀ k, w2.frozen? ⟨P, k, none⟩ = false) ∧ DealtR AnyD B tb w letters 500 (.returned v) ((((w2.setCell ⟨P, 0, none⟩ (.int .i64 y0)).setCell ⟨P, 1, none⟩ (.int .i64 y1)).setCell ⟨P, 2, none⟩ (.slice y2 n2 c2)).setCell ⟨P, 3, none⟩ (.slice y3 n3 c3)) := by
  intro R mo e w2 hR hmo h
  obtain ⟨v, m, n, rfl, ⟨o, hs, sf, cf, sn, cn, rfl, ho, hH⟩, hvd, hnm, hr, hT2, hg2⟩ := h
  have hb2 := zE HB1.out hg2 (by simp; omega)
  obtain ⟨d0, d1, d2, d3⟩ := zQ hb2
  obtain ⟨hsR, hgR⟩ := dbox_set hb2 (.int .i64 m.letters) (.int .i64 m.start) (.slice sf m.final.length cf) (.slice sn m.next.length cn)
  refine ⟨_, _, _, _, _, _, _, _, _, rfl, rfl, d0, d1, d2, d3, fun k => zD hb2 k, _, m, n, rfl, ⟨o, hs, sf, cf, sn, cn, rfl, by have := HPE.out; omega, (hH.base (by have := HPE.out; omega)).far hgR hb2 (by omega)⟩, hvd, by omega, hR m n hr, hT2.kept hgR (fun k e => by have e : P = k := Option.some.inj e; omega), zG (zF HG1.out hg2) hgR (fun k e => by have e : P = k := Option.some.inj e; have := HPE.out; omega)⟩
 have HFIN := Kh fin
 clear fin
 by_cases e1 : r = 1
 ·subst e1
  go_wp2_with fail
  refine (mord_any B tb w1 letters most h1 (by omega) hm1 hm HT1.out).mono ?_
  intro e w2 h
  obtain ⟨v, y0, y1, y2, y3, n2, n3, q2, q3, rfl, rfl, c0, c1, c2, c3, fz, hD⟩ := HFIN.out OrdD most e w2 (fun _ _ h => .inl h) hm h
  have f0 := fz 0; have f1 := fz 1; have f2 := fz 2; have f3 := fz 3
  have HD := Kh hD
  clear hD fz h
  go_wp2
  refine bodyPost_ret (v := .agg #[.int .i64 y0, .int .i64 y1, .slice y2 n2 q2, .slice y3 n3 q3]) (by simp [results, Tryd.results50, go_sem, c0, c1, c2, c3]) rfl ?_
  exact HD.out
 by_cases e2 : r = 2
 ·subst e2
  have hmn : min (most : Int) 4 = ((min most 4 : Nat) : Int) := by omega
  obtain ⟨mm, hmm⟩ : ∃ mm, mm = min most 4 := ⟨_, rfl⟩
  rw [← hmm] at hmn
  have hmm1 : 1 ≤ mm := by omega
  have hmm4 : mm ≤ 4 := by omega
  clear hmm
  go_wp2_with fail
  refine (mperm_any B tb w1 letters mm h1 (by omega) hmm1 (by omega) HT1.out).mono ?_
  intro e w2 h
  obtain ⟨v, y0, y1, y2, y3, n2, n3, q2, q3, rfl, rfl, c0, c1, c2, c3, fz, hD⟩ := HFIN.out PermD mm e w2 (fun _ _ h => .inr (.inl h)) (by omega) h
  have f0 := fz 0; have f1 := fz 1; have f2 := fz 2; have f3 := fz 3
  have HD := Kh hD
  clear hD fz h
  go_wp2
  refine bodyPost_ret (v := .agg #[.int .i64 y0, .int .i64 y1, .slice y2 n2 q2, .slice y3 n3 q3]) (by simp [results, Tryd.results50, go_sem, c0, c1, c2, c3]) rfl ?_
  exact HD.out
 by_cases e3 : r = 3
 ·subst e3
  go_wp2_with fail
  refine (mdef_any B tb w1 letters h1 h2 HT1.out).mono ?_
  intro e w2 h
  obtain ⟨v, y0, y1, y2, y3, n2, n3, q2, q3, rfl, rfl, c0, c1, c2, c3, fz, hD⟩ := HFIN.out DefD 7 e w2 (fun _ _ h => .inr (.inr (.inl h))) (by omega) h
  have f0 := fz 0; have f1 := fz 1; have f2 := fz 2; have f3 := fz 3
  have HD := Kh hD
  clear hD fz h
  go_wp2
  refine bodyPost_ret (v := .agg #[.int .i64 y0, .int .i64 y1, .slice y2 n2 q2, .slice y3 n3 q3]) (by simp [results, Tryd.results50, go_sem, c0, c1, c2, c3]) rfl ?_
  exact HD.out
 ·go_wp2_with fail
  refine (mdfa_any B tb w1 letters most h1 (by omega) hm1 hm HT1.out).mono ?_
  intro e w2 h
  obtain ⟨v, y0, y1, y2, y3, n2, n3, q2, q3, rfl, rfl, c0, c1, c2, c3, fz, hD⟩ := HFIN.out (fun _ _ => True) most e w2 (fun _ _ _ => .inr (.inr (.inr trivial))) hm h.r
  have f0 := fz 0; have f1 := fz 1; have f2 := fz 2; have f3 := fz 3
  have HD := Kh hD
  clear hD fz h
  go_wp2
  refine bodyPost_ret (v := .agg #[.int .i64 y0, .int .i64 y1, .slice y2 n2 q2, .slice y3 n3 q3]) (by simp [results, Tryd.results50, go_sem, c0, c1, c2, c3]) rfl ?_
  exact HD.out
def LettersOk (B tb : Nat) (w : World) (e : Ending) (w' : World) : Prop := ∃ r : Nat, e = .returned (.int .i64 (r : Int)) ∧ 1 ≤ r ∧ r ≤ 2 ∧ xK B w' tb ∧ w.grownBy w' (some tb)
set_option maxHeartbeats 400000 in
theorem letters_any (B tb : Nat) (w : World) (hT : xK B w tb) :
  Calls Tryd.prog 13 #[.pointer (some ⟨tb, 0, none⟩)] w (LettersOk B tb w) := by
 have HN := Kh (uJ B tb w 8 (by omega) hT)
 clear hT
 go_enter Tryd.func13, Tryd.ntmps13
 go_wp2_with fail
 refine HN.out.mono ?_
 rintro e w1 ⟨r, rfl, hr0, hr1, hT1, hg1⟩
 have hr8 := hr1 (by omega)
 have HT1 := Kh hT1; have HG1 := Kh hg1
 clear hT1 hg1 hr1
 go_wp2
 go_ret
 refine ⟨(2 - r / 7).toNat, ?_, by omega, by omega, HT1.out, HG1.out⟩
 show Ending.returned (.int .i64 (2 - r / 7)) = _
 exact yH (by omega)
theorem DfaOwn.dfa {w w' : World} {v : Value} {m : DfaV} {n k : Nat} (h : DfaOwn w w' v m) (hd : VD m n k) : DfaOk w'.heap.size w' v m := by
 obtain ⟨o, hs, sf, cf, sn, cn, rfl, _, hh⟩ := h
 exact (hh.built (by rw [hd.hn, hd.nl])).dfa
theorem TMatT.nil (B : Nat) (w : World) : TMatT B w (.slice none 0 0) [] := ⟨[], .inl ⟨rfl, rfl⟩, RowsT.nil⟩
def SynPart (S : Option SynV) : List (List Nat) × List Nat := match S with
 | some S => (S.tab, S.images)
 | none => ([], [])
def Of21E (d : DfaV) (S : Option SynV) : Prop := match S with
 | some S => ∃ (n k m : Nat) (M : DfaV), VD d n k ∧ M = minD d k ∧ VD M m k ∧ m ≤ 32 ∧ SynE (gensD M m k) m (st0 M) M.final S
 | none => Huge d
def TableE (most : Nat) (T : List (List Nat)) (im : List Nat) : Prop :=
 (∃ (d : DfaV) (n k : Nat) (S : SynV), VD d n k ∧ k ≤ 2 ∧ Of21E d (some S) ∧ S.tab.length ≤ most ∧ T = S.tab ∧ im = S.images) ∨
 ∃ (d : DfaV) (n : Nat) (S : Option SynV), VD d n 1 ∧ n ≤ 4 ∧ PermD d n ∧ Of21E d S ∧ T = (SynPart S).1 ∧ im = (SynPart S).2
def TableOk (B tb most : Nat) (w : World) (e : Ending) (w' : World) : Prop :=
 ∃ (T : List (List Nat)) (im : List Nat) (vT vI : Value), e = .returned (.tuple #[vT, vI]) ∧ TMatT w'.heap.size w' vT T ∧ RowT w'.heap.size 3 w' vI (nats im) ∧ TableE most T im ∧ xK B w' tb ∧ w.grownBy w' (some tb)
theorem TableOk.drew {B tb most : Nat} {w w' : World} {e : Ending} (h : TableOk B tb most w e w') (m : Nat) : TableOk B tb most w e (w'.drewN m) := by
 obtain ⟨T, im, vT, vI, h1, h2, h3, h4, h5, h6⟩ := h
 have hg := zP w' m none
 exact ⟨T, im, vT, vI, h1, (h2.kept hg (by simp) (by simp)).mono hg.size, (h3.kept hg (by simp)).mono hg.size, h4, h5.kept hg (by simp), zG h6 hg (by simp)⟩
set_option maxRecDepth 100000 in
set_option maxHeartbeats 2000000 in
theorem table40_any (B tb most : Nat) (w : World) (hmo : most ≤ 400) (hT : xK B w tb) :
  Calls Tryd.prog 18 #[.pointer (some ⟨tb, 0, none⟩), .int .i64 (most : Int)] w (TableOk B tb most w) := by
 have HLE := Kh (letters_any B tb w hT)
 have HMOST := Kh hmo
 clear hT
 go_enter Tryd.func18, Tryd.ntmps18
 go_wp2_with fail
 refine HLE.out.mono ?_
 rintro e w1 ⟨r, rfl, hr1, hr2, hT1, hg1⟩
 have HMA := Kh (many_any B tb w1 r 3 hr1 hr2 (by omega) (by omega) hT1)
 have HG1 := Kh hg1
 clear hT1 hg1
 go_wp2_with fail
 refine HMA.out.mono ?_
 rintro e w2 ⟨v2, d, n, rfl, hdo, hvd, hn, hR, hT2, hg2⟩
 have HOF := Kh (ofD_any w2.heap.size w2 v2 d (Nat.le_refl _) (hdo.dfa hvd))
 have HT2 := Kh hT2; have HVD := Kh hvd; have HG2 := Kh (zF HG1.out hg2)
 clear hdo hvd hR hT2 hg2
 go_wp2_with fail
 refine HOF.out.mono ?_
 have hsec : ∀ W : World, xK B W tb → Hid (Calls Tryd.prog 14 #[.pointer (some ⟨tb, 0, none⟩), .int .i64 1, .int .i64 4] W (DealtR PermD B tb W 1 4)) := fun W h => Kh (mperm_any B tb W 1 4 (by omega) (by omega) (by omega) (by omega) h)
 have HSEC := Kh hsec
 clear hsec
 rintro e w3 (⟨c, rfl, hc, hc1, hc2, hg3⟩ | ⟨S, v3, n', k', m, M, hvd', hM, hVM, hm, rfl, hSE, hSA, hg3⟩)
 ·have hT3 := HT2.out.kept hg3 (by simp)
  have hgal := World.grownBy_alloc w3 (.cells #[.int .i64 0, .slice none 0 0, .slice none 0 0, .slice none 0 0, .slice none 0 0, .slice none 0 0] 33) none
  have hb := heap_alloc_new w3 (.cells #[.int .i64 0, .slice none 0 0, .slice none 0 0, .slice none 0 0, .slice none 0 0, .slice none 0 0] 33)
  obtain ⟨w4, hw4⟩ : ∃ w4, w4 = w3.alloc (.cells #[.int .i64 0, .slice none 0 0, .slice none 0 0, .slice none 0 0, .slice none 0 0, .slice none 0 0] 33) := ⟨_, rfl⟩
  rw [← hw4] at hgal hb
  obtain ⟨o, ho⟩ : ∃ o, o = w3.heap.size := ⟨_, rfl⟩
  rw [← ho] at hb
  have hT4 := hT3.kept hgal (by simp)
  have HPE := HSEC.out w4 hT4
  have hto := HT2.out.lt
  have HG4 := Kh (zG (zG HG2.out hg3 (by simp)) hgal (by simp)); have HW4 := Kh hw4; have HB := Kh hb; have HOE := Kh ho
  have hot : tb < o := by have := hg3.size; omega
  have hos : w.heap.size ≤ o := by have := HG2.out.size; have := hg3.size; omega
  have HT4 := Kh hT4
  clear hT3 hg3 hgal hw4 hb ho hT4 hto hc1 hc2
  go_upto_region 2 with fail
  rw [← HW4.out, ← HOE.out]
  go_wp2_with fail
  refine HPE.out.mono ?_
  rintro e w5 ⟨v5, d5, n5, rfl, hdo5, hvd5, hn5, hR5, hT5, hg5⟩
  have HOF5 := Kh (ofD_any w5.heap.size w5 v5 d5 (Nat.le_refl _) (hdo5.dfa hvd5))
  have HT5 := Kh hT5; have HVD5 := Kh hvd5; have HG5 := Kh (zF HG4.out hg5); have HR5 := Kh hR5
  have HB5 := Kh (zE HB.out hg5 (fun e => by have e : tb = o := Option.some.inj e; omega))
  clear hdo5 hvd5 hR5 hT5 hg5
  go_wp2_with fail
  refine HOF5.out.mono ?_
  rintro e w6 (⟨c6, rfl, hc6, _, hc62, hg6⟩ | ⟨S6, v6, n6, k6, m6, M6, hvd6, hM6, hVM6, hm6, rfl, hSE6, hSA6, hg6⟩)
  ·have HHU := Kh (hc62 (validD_of HVD5.out)).2
   clear hc62
   have hb6 := zE HB5.out hg6 (by simp)
   obtain ⟨p0, p1, p2, p3, p4, p5⟩ := yM hb6
   have f0 := zD hb6 0; have f1 := zD hb6 1; have f2 := zD hb6 2; have f3 := zD hb6 3; have f4 := zD hb6 4; have f5 := zD hb6 5
   have HB6 := Kh hb6; have HG6 := Kh (zG HG5.out hg6 (by simp)); have HT6 := Kh (HT5.out.kept hg6 (by simp))
   clear hb6 hg6
   go_upto_region 4 with fail
   obtain ⟨hsZ, hgZ⟩ := uK HB6.out (.int .i64 0) (.slice none 0 0) (.slice none 0 0) (.slice none 0 0) (.slice none 0 0) (.slice none 0 0)
   obtain ⟨wZ, hwZ⟩ : ∃ wZ, wZ = ((((((w6.setCell ⟨o, 0, none⟩ (.int .i64 0)).setCell ⟨o, 1, none⟩ (.slice none 0 0)).setCell ⟨o, 2, none⟩ (.slice none 0 0)).setCell ⟨o, 3, none⟩ (.slice none 0 0)).setCell ⟨o, 4, none⟩ (.slice none 0 0)).setCell ⟨o, 5, none⟩ (.slice none 0 0)) := ⟨_, rfl⟩
   rw [← hwZ] at hsZ hgZ ⊢
   have HTZ := Kh (HT6.out.kept hgZ (fun j e => by have e : o = j := Option.some.inj e; have := HT6.out.ge; omega))
   have HGZ := Kh (zG HG6.out hgZ (fun j e => by have e : o = j := Option.some.inj e; omega))
   have HGO := Kh hgZ
   obtain ⟨z0, z1, z2, z3, z4, z5⟩ := yM hsZ
   clear hwZ hsZ hgZ p0 p1 p2 p3 p4 p5 f0 f1 f2 f3 f4 f5 z0 z2 z4 z5
   go_quiet (fail)
   go_wp2
   refine bodyPost_ret (v := .tuple #[.slice none 0 0, .slice none 0 0]) (by simp [results, Tryd.results18, go_sem]) rfl ?_
   refine TableOk.drew ?_ _
   exact ⟨[], [], _, _, rfl, TMatT.nil _ _, .inl ⟨rfl, rfl⟩, .inr ⟨d5, n5, none, HVD5.out, hn5, HR5.out, HHU.out, rfl, rfl⟩, HTZ.out, HGZ.out⟩
  ·have HSA6 := Kh hSA6
   obtain ⟨vT6, vW6, vI6, vA6, vP6, rfl, hT6, hW6, hI6, hA6, hPl6⟩ := id hSA6
   obtain ⟨tA6, tC6, rfl⟩ := (TMatT.tmat hT6).shape
   obtain ⟨wA6, wC6, rfl⟩ := hW6.shape
   obtain ⟨iA6, iC6, rfl⟩ := hI6.shape
   obtain ⟨aA6, aC6, rfl⟩ := hA6.shape
   obtain ⟨lA6, lC6, rfl⟩ := hPl6.shape
   obtain ⟨tn6, htn6⟩ : ∃ x, x = S6.tab.length := ⟨_, rfl⟩
   obtain ⟨wn6, hwn6⟩ : ∃ x, x = (strsL S6.words).length := ⟨_, rfl⟩
   obtain ⟨in6, hin6⟩ : ∃ x, x = (nats S6.images).length := ⟨_, rfl⟩
   obtain ⟨an6, han6⟩ : ∃ x, x = (bls S6.accept).length := ⟨_, rfl⟩
   obtain ⟨ln6, hln6⟩ : ∃ x, x = (bls S6.plus).length := ⟨_, rfl⟩
   rw [← htn6] at hT6; rw [← hin6] at hI6
   rw [← htn6, ← hwn6, ← hin6, ← han6, ← hln6]
   have HTT6 := Kh hT6; have HI6 := Kh hI6
   have HE6 : Hid (Of21E d5 (some S6)) := Kh ⟨n6, k6, m6, M6, hvd6, hM6, hVM6, hm6, hSE6⟩
   clear hSA6 hT6 hW6 hI6 hA6 hPl6 htn6 hwn6 hin6 han6 hln6 hvd6 hM6 hVM6 hm6 hSE6
   have hb6 := zE HB5.out hg6 (by simp)
   obtain ⟨p0, p1, p2, p3, p4, p5⟩ := yM hb6
   have f0 := zD hb6 0; have f1 := zD hb6 1; have f2 := zD hb6 2; have f3 := zD hb6 3; have f4 := zD hb6 4; have f5 := zD hb6 5
   have HB6 := Kh hb6; have HG6 := Kh (zG HG5.out hg6 (by simp)); have HT6 := Kh (HT5.out.kept hg6 (by simp))
   clear hb6 hg6
   go_upto_region 4 with fail
   obtain ⟨hsZ, hgZ⟩ := uK HB6.out (.int .i64 S6.k) (.slice tA6 tn6 tC6) (.slice wA6 wn6 wC6) (.slice iA6 in6 iC6) (.slice aA6 an6 aC6) (.slice lA6 ln6 lC6)
   obtain ⟨wZ, hwZ⟩ : ∃ wZ, wZ = ((((((w6.setCell ⟨o, 0, none⟩ (.int .i64 S6.k)).setCell ⟨o, 1, none⟩ (.slice tA6 tn6 tC6)).setCell ⟨o, 2, none⟩ (.slice wA6 wn6 wC6)).setCell ⟨o, 3, none⟩ (.slice iA6 in6 iC6)).setCell ⟨o, 4, none⟩ (.slice aA6 an6 aC6)).setCell ⟨o, 5, none⟩ (.slice lA6 ln6 lC6)) := ⟨_, rfl⟩
   rw [← hwZ] at hsZ hgZ ⊢
   have HTZ := Kh (HT6.out.kept hgZ (fun j e => by have e : o = j := Option.some.inj e; have := HT6.out.ge; omega))
   have HGZ := Kh (zG HG6.out hgZ (fun j e => by have e : o = j := Option.some.inj e; omega))
   have HGO := Kh hgZ
   obtain ⟨z0, z1, z2, z3, z4, z5⟩ := yM hsZ
   clear hwZ hsZ hgZ p0 p1 p2 p3 p4 p5 f0 f1 f2 f3 f4 f5 z0 z2 z4 z5
   go_quiet (fail)
   go_wp2
   refine bodyPost_ret (v := .tuple #[.slice tA6 tn6 tC6, .slice iA6 in6 iC6]) (by simp [results, Tryd.results18, go_sem]) rfl ?_
   refine TableOk.drew ?_ _
   exact ⟨S6.tab, S6.images, _, _, rfl, (TMatT.kept HTT6.out HGO.out (fun j e => .inr (by have e : o = j := Option.some.inj e; subst e; exact ⟨_, _, _, HB6.out, by decide⟩)) (fun j e => .inr (by have e : o = j := Option.some.inj e; subst e; exact ⟨_, _, _, HB6.out, by decide⟩))).mono HGO.out.size, (HI6.out.kept HGO.out (fun j e => .inr (by have e : o = j := Option.some.inj e; subst e; exact ⟨_, _, _, HB6.out, by decide⟩))).mono HGO.out.size, .inr ⟨d5, n5, some S6, HVD5.out, hn5, HR5.out, HE6.out, rfl, rfl⟩, HTZ.out, HGZ.out⟩
 ·obtain ⟨vT, vW, vI, vA, vP, rfl, hT, hW, hI, hA, hPl⟩ := id hSA
  obtain ⟨tA, tC, rfl⟩ := (TMatT.tmat hT).shape
  obtain ⟨wA, wC, rfl⟩ := hW.shape
  obtain ⟨iA, iC, rfl⟩ := hI.shape
  obtain ⟨aA, aC, rfl⟩ := hA.shape
  obtain ⟨lA, lC, rfl⟩ := hPl.shape
  obtain ⟨wn, hwn⟩ : ∃ wn, wn = (strsL S.words).length := ⟨_, rfl⟩
  obtain ⟨iN, hin⟩ : ∃ iN, iN = (nats S.images).length := ⟨_, rfl⟩
  obtain ⟨aN, han⟩ : ∃ aN, aN = (bls S.accept).length := ⟨_, rfl⟩
  obtain ⟨lN, hln⟩ : ∃ lN, lN = (bls S.plus).length := ⟨_, rfl⟩
  rw [← hin] at hI
  rw [← hwn, ← hin, ← han, ← hln]
  have hT3 := HT2.out.kept hg3 (by simp)
  have hgal := World.grownBy_alloc w3 (.cells #[.int .i64 S.k, .slice tA S.tab.length tC, .slice wA wn wC, .slice iA iN iC, .slice aA aN aC, .slice lA lN lC] 33) none
  have hb := heap_alloc_new w3 (.cells #[.int .i64 S.k, .slice tA S.tab.length tC, .slice wA wn wC, .slice iA iN iC, .slice aA aN aC, .slice lA lN lC] 33)
  obtain ⟨w4, hw4⟩ : ∃ w4, w4 = w3.alloc (.cells #[.int .i64 S.k, .slice tA S.tab.length tC, .slice wA wn wC, .slice iA iN iC, .slice aA aN aC, .slice lA lN lC] 33) := ⟨_, rfl⟩
  rw [← hw4] at hgal hb
  obtain ⟨o, ho⟩ : ∃ o, o = w3.heap.size := ⟨_, rfl⟩
  rw [← ho] at hb
  have hT4 := hT3.kept hgal (by simp)
  have HPE := HSEC.out w4 hT4
  have hto := HT2.out.lt
  have HG4 := Kh (zG (zG HG2.out hg3 (by simp)) hgal (by simp)); have HW4 := Kh hw4; have HB := Kh hb; have HOE := Kh ho
  have hot : tb < o := by have := hg3.size; omega
  have hos : w.heap.size ≤ o := by have := HG2.out.size; have := hg3.size; omega
  have HT4 := Kh hT4
  have HTT := Kh ((TMatT.kept hT hgal (by simp) (by simp)).mono hgal.size); have HI := Kh ((hI.kept hgal (by simp)).mono hgal.size)
  have HE1 : Hid (Of21E d (some S)) := Kh ⟨n', k', m, M, hvd', hM, hVM, hm, hSE⟩
  have hk2 : Hid (r ≤ 2) := Kh hr2
  obtain ⟨c0, c1, c2, c3, c4, c5⟩ := yM hb
  clear hT3 hg3 hgal hw4 hb ho hT4 hto hvd' hM hVM hm hSE hSA hT hW hI hA hPl hwn hin han hln c0 c2 c4 c5
  go_upto_region 2 with fail
  rw [← HW4.out, ← HOE.out]
  by_cases hmm : most < S.tab.length
  ·have hmm' : (most : Int) < S.tab.length := by omega
   clear c3 HTT HI
   go_wp2_with fail
   refine HPE.out.mono ?_
   rintro e w5 ⟨v5, d5, n5, rfl, hdo5, hvd5, hn5, hR5, hT5, hg5⟩
   have HOF5 := Kh (ofD_any w5.heap.size w5 v5 d5 (Nat.le_refl _) (hdo5.dfa hvd5))
   have HT5 := Kh hT5; have HVD5 := Kh hvd5; have HG5 := Kh (zF HG4.out hg5); have HR5 := Kh hR5
   have HB5 := Kh (zE HB.out hg5 (fun e => by have e : tb = o := Option.some.inj e; omega))
   clear hdo5 hvd5 hR5 hT5 hg5
   go_wp2_with fail
   refine HOF5.out.mono ?_
   rintro e w6 (⟨c6, rfl, hc6, _, hc62, hg6⟩ | ⟨S6, v6, n6, k6, m6, M6, hvd6, hM6, hVM6, hm6, rfl, hSE6, hSA6, hg6⟩)
   ·have HHU := Kh (hc62 (validD_of HVD5.out)).2
    clear hc62
    have hb6 := zE HB5.out hg6 (by simp)
    obtain ⟨p0, p1, p2, p3, p4, p5⟩ := yM hb6
    have f0 := zD hb6 0; have f1 := zD hb6 1; have f2 := zD hb6 2; have f3 := zD hb6 3; have f4 := zD hb6 4; have f5 := zD hb6 5
    have HB6 := Kh hb6; have HG6 := Kh (zG HG5.out hg6 (by simp)); have HT6 := Kh (HT5.out.kept hg6 (by simp))
    clear hb6 hg6
    go_upto_region 4 with fail
    obtain ⟨hsZ, hgZ⟩ := uK HB6.out (.int .i64 0) (.slice none 0 0) (.slice none 0 0) (.slice none 0 0) (.slice none 0 0) (.slice none 0 0)
    obtain ⟨wZ, hwZ⟩ : ∃ wZ, wZ = ((((((w6.setCell ⟨o, 0, none⟩ (.int .i64 0)).setCell ⟨o, 1, none⟩ (.slice none 0 0)).setCell ⟨o, 2, none⟩ (.slice none 0 0)).setCell ⟨o, 3, none⟩ (.slice none 0 0)).setCell ⟨o, 4, none⟩ (.slice none 0 0)).setCell ⟨o, 5, none⟩ (.slice none 0 0)) := ⟨_, rfl⟩
    rw [← hwZ] at hsZ hgZ ⊢
    have HTZ := Kh (HT6.out.kept hgZ (fun j e => by have e : o = j := Option.some.inj e; have := HT6.out.ge; omega))
    have HGZ := Kh (zG HG6.out hgZ (fun j e => by have e : o = j := Option.some.inj e; omega))
    have HGO := Kh hgZ
    obtain ⟨z0, z1, z2, z3, z4, z5⟩ := yM hsZ
    clear hwZ hsZ hgZ p0 p1 p2 p3 p4 p5 f0 f1 f2 f3 f4 f5 z0 z2 z4 z5
    go_quiet (fail)
    go_wp2
    refine bodyPost_ret (v := .tuple #[.slice none 0 0, .slice none 0 0]) (by simp [results, Tryd.results18, go_sem]) rfl ?_
    refine TableOk.drew ?_ _
    exact ⟨[], [], _, _, rfl, TMatT.nil _ _, .inl ⟨rfl, rfl⟩, .inr ⟨d5, n5, none, HVD5.out, hn5, HR5.out, HHU.out, rfl, rfl⟩, HTZ.out, HGZ.out⟩
   ·have HSA6 := Kh hSA6
    obtain ⟨vT6, vW6, vI6, vA6, vP6, rfl, hT6, hW6, hI6, hA6, hPl6⟩ := id hSA6
    obtain ⟨tA6, tC6, rfl⟩ := (TMatT.tmat hT6).shape
    obtain ⟨wA6, wC6, rfl⟩ := hW6.shape
    obtain ⟨iA6, iC6, rfl⟩ := hI6.shape
    obtain ⟨aA6, aC6, rfl⟩ := hA6.shape
    obtain ⟨lA6, lC6, rfl⟩ := hPl6.shape
    obtain ⟨tn6, htn6⟩ : ∃ x, x = S6.tab.length := ⟨_, rfl⟩
    obtain ⟨wn6, hwn6⟩ : ∃ x, x = (strsL S6.words).length := ⟨_, rfl⟩
    obtain ⟨in6, hin6⟩ : ∃ x, x = (nats S6.images).length := ⟨_, rfl⟩
    obtain ⟨an6, han6⟩ : ∃ x, x = (bls S6.accept).length := ⟨_, rfl⟩
    obtain ⟨ln6, hln6⟩ : ∃ x, x = (bls S6.plus).length := ⟨_, rfl⟩
    rw [← htn6] at hT6; rw [← hin6] at hI6
    rw [← htn6, ← hwn6, ← hin6, ← han6, ← hln6]
    have HTT6 := Kh hT6; have HI6 := Kh hI6
    have HE6 : Hid (Of21E d5 (some S6)) := Kh ⟨n6, k6, m6, M6, hvd6, hM6, hVM6, hm6, hSE6⟩
    clear hSA6 hT6 hW6 hI6 hA6 hPl6 htn6 hwn6 hin6 han6 hln6 hvd6 hM6 hVM6 hm6 hSE6
    have hb6 := zE HB5.out hg6 (by simp)
    obtain ⟨p0, p1, p2, p3, p4, p5⟩ := yM hb6
    have f0 := zD hb6 0; have f1 := zD hb6 1; have f2 := zD hb6 2; have f3 := zD hb6 3; have f4 := zD hb6 4; have f5 := zD hb6 5
    have HB6 := Kh hb6; have HG6 := Kh (zG HG5.out hg6 (by simp)); have HT6 := Kh (HT5.out.kept hg6 (by simp))
    clear hb6 hg6
    go_upto_region 4 with fail
    obtain ⟨hsZ, hgZ⟩ := uK HB6.out (.int .i64 S6.k) (.slice tA6 tn6 tC6) (.slice wA6 wn6 wC6) (.slice iA6 in6 iC6) (.slice aA6 an6 aC6) (.slice lA6 ln6 lC6)
    obtain ⟨wZ, hwZ⟩ : ∃ wZ, wZ = ((((((w6.setCell ⟨o, 0, none⟩ (.int .i64 S6.k)).setCell ⟨o, 1, none⟩ (.slice tA6 tn6 tC6)).setCell ⟨o, 2, none⟩ (.slice wA6 wn6 wC6)).setCell ⟨o, 3, none⟩ (.slice iA6 in6 iC6)).setCell ⟨o, 4, none⟩ (.slice aA6 an6 aC6)).setCell ⟨o, 5, none⟩ (.slice lA6 ln6 lC6)) := ⟨_, rfl⟩
    rw [← hwZ] at hsZ hgZ ⊢
    have HTZ := Kh (HT6.out.kept hgZ (fun j e => by have e : o = j := Option.some.inj e; have := HT6.out.ge; omega))
    have HGZ := Kh (zG HG6.out hgZ (fun j e => by have e : o = j := Option.some.inj e; omega))
    have HGO := Kh hgZ
    obtain ⟨z0, z1, z2, z3, z4, z5⟩ := yM hsZ
    clear hwZ hsZ hgZ p0 p1 p2 p3 p4 p5 f0 f1 f2 f3 f4 f5 z0 z2 z4 z5
    go_quiet (fail)
    go_wp2
    refine bodyPost_ret (v := .tuple #[.slice tA6 tn6 tC6, .slice iA6 in6 iC6]) (by simp [results, Tryd.results18, go_sem]) rfl ?_
    refine TableOk.drew ?_ _
    exact ⟨S6.tab, S6.images, _, _, rfl, (TMatT.kept HTT6.out HGO.out (fun j e => .inr (by have e : o = j := Option.some.inj e; subst e; exact ⟨_, _, _, HB6.out, by decide⟩)) (fun j e => .inr (by have e : o = j := Option.some.inj e; subst e; exact ⟨_, _, _, HB6.out, by decide⟩))).mono HGO.out.size, (HI6.out.kept HGO.out (fun j e => .inr (by have e : o = j := Option.some.inj e; subst e; exact ⟨_, _, _, HB6.out, by decide⟩))).mono HGO.out.size, .inr ⟨d5, n5, some S6, HVD5.out, hn5, HR5.out, HE6.out, rfl, rfl⟩, HTZ.out, HGZ.out⟩
  ·have hmm' : ¬ (most : Int) < S.tab.length := by omega
   obtain ⟨tl, htl⟩ : ∃ tl, tl = S.tab.length := ⟨_, rfl⟩
   rw [← htl] at c1 hmm'
   have HTL := Kh htl
   rw [← htl]
   clear htl
   go_upto_region 4 with fail
   go_quiet (fail)
   go_wp2
   refine bodyPost_ret (v := .tuple #[.slice tA tl tC, .slice iA iN iC]) (by simp [results, Tryd.results18, go_sem]) rfl ?_
   refine TableOk.drew ?_ _
   exact ⟨S.tab, S.images, _, _, rfl, by rw [HTL.out]; exact HTT.out, HI.out, .inl ⟨d, n, r, S, HVD.out, hk2.out, HE1.out, by have := HTL.out; omega, rfl, rfl⟩, HT4.out, HG4.out⟩
def Pos (l : List Nat) : Prop := 0 < l.length ∧ 0 ∉ l
theorem max_pos {n : Nat} {l : List Nat} (hl : ∀ b ∈ l, b < 2 ^ n) {a : Nat} (ha : a ∈ l) (h0 : a ≠ 0) : Pos (maxOf n l) := by
 obtain ⟨b, hb, hab⟩ := exists_max hl _ a (Nat.le_refl _) ha
 refine ⟨List.length_pos_of_mem hb, fun h => ?_⟩
 rcases ((mem_maxOf hl).1 h).2 a ha with e | e
 ·exact h0 e.symm
 ·exact e (Nat.zero_and a)
theorem Pos.ex {l : List Nat} (h : Pos l) : ∃ a ∈ l, a ≠ 0 := by
 obtain ⟨a, ha⟩ := List.exists_mem_of_length_pos h.1
 exact ⟨a, ha, fun e => h.2 (e ▸ ha)⟩
theorem start_pos' {t : List (List Int)} {im : List Int} (h : Good t im) : Pos (vQ t im) :=
 max_pos (genL_lt h) (a := 2 ^ (wY t).toNat) (by simp [genL]) (Nat.ne_of_gt (Nat.two_pow_pos _))
theorem Pos.round {n : Nat} {tb : Nat → Nat → Nat} {l : List Nat} (ht : Tb n tb) (hl : ∀ b ∈ l, b < 2 ^ n) (h : Pos l) : Pos (zW n tb l) := by
 obtain ⟨a, ha, h0⟩ := h.ex
 exact max_pos (uM ht hl) (uY.2 (.inl ha)) h0
def intL (l : List Nat) : List Int := l.map fun (x : Nat) => (x : Int)
theorem intL_length (l : List Nat) : (intL l).length = l.length := by simp [intL]
theorem intL_getD (l : List Nat) (i : Nat) : (intL l).getD i 0 = (l.getD i 0 : Nat) := by
 simp only [intL, List.getD, List.getElem?_map]
 cases l[i]? <;> rfl
theorem natL_intL (l : List Nat) : natL (intL l) = l := by simp [natL, intL, Function.comp_def]
theorem famB_int {n : Nat} {l : List Nat} (h : FamOk n (l, false)) (hp : Pos l) : famB n (intL l) = true := by
 have hs : l.Pairwise (· < ·) := by
  have := maxOf_sorted n l
  have h2 : maxOf n l = l := h.2
  rwa [h2] at this
 have h1 : ∀ b ∈ l, b < 2 ^ n := h.1
 have hft : famTo n (intL l) (intL l).length = true := by
  simp only [famTo, List.all_eq_true, List.mem_range]
  intro i hi
  rw [intL_length] at hi
  have hm := h1 _ (getD_memN hi)
  have h0 : l.getD i 0 ≠ 0 := fun e => hp.2 (e ▸ getD_memN hi)
  simp only [famAt, setB, intL_getD, Bool.and_eq_true, decide_eq_true_eq]
  refine ⟨⟨by omega, by omega⟩, ?_⟩
  by_cases hi0 : i = 0
  ·exact .inl hi0
  ·have := sorted_lt hs (i := i - 1) (j := i) (by omega) hi
   exact .inr (by omega)
 rw [famB_eq (by rw [intL_length]; exact hp.1) hft, natL_intL, intL_length, decide_eq_true_eq]
 have h2 : maxOf n l = l := h.2
 rw [h2]
theorem row_not_box {B : Nat} {w : World} {a : Option Addr} {n sc pb e : Nat} {l : List Nat} {p q : Value} (h : Row B w (.slice a n sc) (nats l)) (h0 : 0 < l.length) (hb : w.heap[pb]? = some (.cells #[p, q] e (0, 0))) (hp : ∀ z, p ≠ .int .i64 z) (hq : ∀ z, q ≠ .int .i64 z) :
  ∃ k off, a = some ⟨k, off, none⟩ ∧ n = l.length ∧ l.length ≤ sc ∧ sc ≤ maxLen ∧ RowAt w k off (nats l) ∧ k ≠ pb := by
 obtain ⟨k, off, cap, e1, h2, h3, h4, h5⟩ := h.some_ (by rw [zL]; exact h0)
 simp only [Value.slice.injEq] at e1
 obtain ⟨rfl, rfl, rfl⟩ := e1
 refine ⟨k, off, rfl, by rw [zL], by rw [zL] at h3; exact h3, h4, h5, ?_⟩
 rintro rfl
 have hc := h5.nat 0 h0
 rw [Nat.add_zero, cell_of_row w k off _ _ _ hb] at hc
 match off, hc with
 | 0, hc => simp at hc; exact hp _ hc
 | 1, hc => simp at hc; exact hq _ hc
 | n + 2, hc => simp at hc
set_option maxHeartbeats 800000 in
theorem rclosure_any (B : Nat) (w : World) (v iv : Value) (t : List (List Int)) (im : List Int) (hB : B ≤ w.heap.size) (h : Mat B w v t) (hi : Row B w iv (ints im)) :
  Calls Tryd.prog 29 #[v, iv] w (ClosureOk w t im) := by
 have HBG := Kh (rbegin_any B w v iv t im hB h hi)
 have H := Kh h; have HI := Kh hi
 clear h hi
 go_enter Tryd.func29, Tryd.ntmps29
 go_wp2_with fail
 refine HBG.out.mono ?_
 rintro e w1 ⟨hg1, hc⟩
 have HG1 := Kh hg1
 have hz1 := hg1.size
 clear HBG hg1
 rcases hc with ⟨hz, rfl⟩ | ⟨hz, sa, sc, rfl, hown⟩
 ·obtain ⟨E, hE⟩ : ∃ E, E = yT t im := ⟨_, rfl⟩
  rw [← hE] at hz ⊢
  have HE := Kh hE
  have e1 : (E == 0) = false := by rw [beq_eq_false_iff_ne]; exact hz
  clear hE
  go_wp2
  go_loopg [7] 0 (fun gh i wr => i = .int .i64 E ∧ wr = w1.alloc (.cells #[.slice none 0 0, .bool false] 49))
  case atStart => exact ⟨rfl, rfl⟩
  case round =>
   obtain ⟨rfl, rfl⟩ := hrel
   go_wp2
   refine bodyPost_ret (v := .tuple #[.slice none 0 0, .int .i64 E]) (by simp [results, Tryd.results29, go_sem]) rfl ?_
   exact ⟨zG HG1.out (World.grownBy_alloc _ _ none) (by simp), .inl ⟨by rw [← HE.out]; exact hz, by rw [← HE.out]⟩⟩
 ·have hgd := tL.1 hz
  have HGD := Kh hgd; have HZ := Kh hz
  have hle := hgd.le
  have hva := hgd.valid
  have HTB := Kh (tb_of hva)
  have hpos := start_pos hgd
  obtain ⟨k0, rfl, hsc1, hsc2, harr⟩ := yI hown hpos
  have hkl := hown.lt k0 rfl
  obtain ⟨l0, hl0⟩ : ∃ l0, l0 = vQ t im := ⟨_, rfl⟩
  have HPS : Hid (Pos l0) := Kh (by rw [hl0]; exact start_pos' hgd)
  have HF0 : Hid (FamOk t.length (l0, false)) := Kh (by rw [hl0]; exact start_ok hgd)
  rw [← hl0] at hpos hown hsc1 harr ⊢
  have HRA := Kh harr.row
  have HL0 := Kh hl0
  have HGO : Hid (Going t.length (entN t) l0 l0 false) := Kh ⟨HF0.out, 0, rfl⟩
  clear hown harr hl0 hgd hva hz
  go_wp2
  obtain ⟨wA, hWA⟩ : ∃ wA, wA = w1.alloc (.cells #[.slice (some ⟨k0, 0, none⟩) l0.length sc, .bool false] 49) := ⟨_, rfl⟩
  have HRB : Hid (wA.heap[w1.heap.size]? = some (.cells #[.slice (some ⟨k0, 0, none⟩) l0.length sc, .bool false] 49 (0, 0))) := Kh (by rw [hWA]; exact heap_alloc_new w1 _)
  have hgA : w1.grownBy wA none := by rw [hWA]; exact World.grownBy_alloc w1 _ none
  rw [← hWA]
  have HGA := Kh (zF HG1.out hgA)
  have HRW := Kh (HRA.out.kept hgA (by simp))
  have hk0 : k0 ≠ w1.heap.size := by omega
  clear hWA hgA HRA HG1
  obtain ⟨bx, hbx⟩ : ∃ bx, bx = w1.heap.size := ⟨_, rfl⟩
  rw [← hbx] at HRB hk0 hz1 ⊢
  clear hbx
  go_loopg [7] (togo t.length l0 false) (fun gh i wr => i = .int .i64 0 ∧ ∃ (k off sc : Nat) (l : List Nat) (d : Bool), gh = togo t.length l d ∧ Going t.length (entN t) l0 l d ∧ Hid (Pos l) ∧ RowAt wr k off (nats l) ∧ l.length ≤ sc ∧ sc ≤ maxLen ∧ k ≠ bx ∧ w.grownBy wr none ∧ wr.heap[bx]? = some (.cells #[.slice (some ⟨k, off, none⟩) l.length sc, .bool d] 49 (0, 0)))
  case atStart => exact ⟨rfl, k0, 0, sc, l0, false, rfl, HGO.out, HPS, HRW.out, hsc1, hsc2, hk0, HGA.out, HRB.out⟩
  case round =>
   clear HGO HPS HRW HGA HRB hsc1 hsc2 hk0
   obtain ⟨rfl, k, off, sc, l, d, hg, hgo, hps, hrw, hs1, hs2, hkb, hgr, hrb⟩ := hrel
   have HG := Kh hg; have HGO := Kh hgo; have HRW := Kh hrw; have HGR := Kh hgr; have HRB := Kh hrb
   have cr0 := zI hrb 0 (by simp)
   have cr1 := zI hrb 1 (by simp)
   have fr0 := zD hrb 0
   have fr1 := zD hrb 1
   simp only [List.getElem_toArray, List.getElem_cons_zero, List.getElem_cons_succ] at cr0 cr1
   have HROW : Hid (Row wr.heap.size wr (.slice (some ⟨k, off, none⟩) l.length sc) (nats l)) := Kh (.inr ⟨k, off, sc, by rw [zL], hrw.1, by rw [zL]; exact hs1, hs2, hrw⟩)
   clear hg hgo hrw hgr hrb
   cases d with
   | true =>
    go_wp2
    refine bodyPost_ret (v := .tuple #[.slice (some ⟨k, off, none⟩) l.length sc, .int .i64 0]) (by simp [results, Tryd.results29, go_sem]) rfl ?_
    refine ⟨HGR.out, .inr ⟨HZ.out, _, rfl, ?_⟩⟩
    have := HGO.out.stop HTB.out HF0.out
    unfold closeL
    rw [← HL0.out, ← this]
    exact HROW.out
   | false =>
    have hadv := radvance_any wr.heap.size wr v iv (.slice (some ⟨k, off, none⟩) l.length sc) t im (intL l) false 1 (Nat.le_refl _) ((H.out.kept HGR.out (by simp)).mono (by have := HGR.out.size; omega)) ((HI.out.kept HGR.out (by simp)).mono (by have := HGR.out.size; omega)) (by have := HROW.out; rw [natsI] at this; exact this)
    have hE : advE t im (intL l) 1 = 0 := advE_ok HZ.out (by omega) (famB_int HGO.out.1 hps.out)
    have hL : advL t (intL l) false 1 = (zW t.length (entN t) l, decide (zW t.length (entN t) l = l)) := by
     unfold advL
     rw [natL_intL]
     show xH _ _ (0 + 1) _ = _
     rw [vZ]; rfl
    have HADV := Kh hadv
    have HE0 := Kh hE; have HL1 := Kh hL
    have HP3 : Hid (Pos (zW t.length (entN t) l)) := Kh (hps.out.round HTB.out HGO.out.1.1)
    have HM : Hid (togo t.length (zW t.length (entN t) l) (decide (zW t.length (entN t) l = l)) < togo t.length l false) := Kh (HGO.out.less HTB.out)
    have HGN := Kh (HGO.out.step HTB.out)
    clear hadv hE hL
    go_wp2_with fail
    refine HADV.out.mono ?_
    rintro e w3 ⟨hg3, hc3⟩
    rcases hc3 with ⟨hne, _⟩ | ⟨_, v3, rfl, hrow3⟩
    ·exact absurd HE0.out hne
    rw [HL1.out] at hrow3 ⊢
    obtain ⟨R, hR⟩ : ∃ R, R = zW t.length (entN t) l := ⟨_, rfl⟩
    obtain ⟨D, hD⟩ : ∃ D, D = decide (zW t.length (entN t) l = l) := ⟨_, rfl⟩
    rw [← hD, ← hR] at HM HGN
    rw [← hR] at HP3
    dsimp only at hrow3 ⊢
    rw [← hD]
    rw [← hR] at hrow3
    obtain ⟨a3, c3, rfl⟩ := hrow3.shape
    rw [zL] at hrow3 ⊢
    have hr3 := zE HRB.out hg3 (by simp)
    obtain ⟨k3, o3, rfl, _, h31, h32, h33, h34⟩ := row_not_box hrow3 HP3.out.1 hr3 (by intro z; simp) (by intro z; simp)
    have HR3 := Kh hr3; have HRW3 := Kh h33
    have cr0' := zI hr3 0 (by simp)
    have cr1' := zI hr3 1 (by simp)
    have fr0' := zD hr3 0
    have fr1' := zD hr3 1
    simp only [List.getElem_toArray, List.getElem_cons_zero, List.getElem_cons_succ] at cr0' cr1'
    have HG3 : Hid (w.grownBy w3 none) := Kh (zF HGR.out hg3)
    clear hrow3 hr3 h33 hg3 hR hD cr0 cr1 fr0 fr1
    go_wp2
    have hs5 : w3.grownBy ((w3.setCell ⟨bx, 0, none⟩ (.slice (some ⟨k3, o3, none⟩) R.length c3)).setCell ⟨bx, 1, none⟩ (.bool D)) (some bx) :=
     zF (zH w3 ⟨bx, 0, none⟩ _) (zH (w3.setCell ⟨bx, 0, none⟩ (.slice (some ⟨k3, o3, none⟩) R.length c3)) ⟨bx, 1, none⟩ _)
    have HR5 := Kh (fam_set HR3.out (.slice (some ⟨k3, o3, none⟩) R.length c3) (.bool D))
    have HG5 := Kh hs5
    clear hs5
    go_roundg (togo t.length R D)
    case measure => rw [HG.out]; exact HM.out
    case rel => exact ⟨rfl, k3, o3, c3, R, D, rfl, HGN.out, HP3, HRW3.out.kept HG5.out (fun e => h34 (Option.some.inj e).symm), h31, h32, h34, zG HG3.out HG5.out (fun x e => by have : bx = x := Option.some.inj e; omega), HR5.out⟩
set_option maxHeartbeats 400000 in
theorem lawsame_any (B C : Nat) (w : World) (va vb : Value) (xs ys : List Int) (d e : Bool) (hB : B ≤ w.heap.size) (hC : C ≤ w.heap.size) (ha : Row B w va (ints xs)) (hb : Row C w vb (ints ys)) :
  Calls Tryd.prog 26 #[.agg #[va, .bool d], .agg #[vb, .bool e]] w fun r w' => r = .returned (.bool (decide (xs = ys) && (d == e))) ∧ w.grownBy w' none := by
 obtain ⟨wA, hWA⟩ : ∃ wA, wA = (w.alloc (.cells #[va, .bool d] 49)).alloc (.cells #[vb, .bool e] 49) := ⟨_, rfl⟩
 obtain ⟨h1, h2, h3, _⟩ := uS w #[va, .bool d] #[vb, .bool e] 49
 rw [← hWA] at h1 h2 h3
 have HB1 := Kh h1; have HB2 := Kh h2; have HGA := Kh h3
 have HS := Kh (sF B C wA va vb xs ys (ha.kept h3 (by simp)) (hb.kept h3 (by simp)))
 have HWA := Kh hWA
 clear h1 h2 h3 ha hb hWA
 go_enter Tryd.func26, Tryd.ntmps26
 have ca0 := zI HB1.out 0 (by simp)
 have ca1 := zI HB1.out 1 (by simp)
 have cb0 := zI HB2.out 0 (by simp)
 have cb1 := zI HB2.out 1 (by simp)
 simp only [List.getElem_toArray, List.getElem_cons_zero, List.getElem_cons_succ] at ca0 ca1 cb0 cb1
 go_upto_region 1 with fail
 rw [← HWA.out]
 go_wp2_with fail
 refine HS.out.mono ?_
 rintro r w1 ⟨rfl, m, rfl⟩
 cases hd : decide (xs = ys) with
 | false =>
  go_wp2
  go_ret
  exact ⟨yS (by rw [hd]; rfl), zF HGA.out (zP _ _ _)⟩
 | true =>
  go_wp2
  go_ret
  refine ⟨yS ?_, zF HGA.out (zP _ _ _)⟩
  rw [hd]
  cases d <;> cases e <;> rfl
theorem closeL_one : closeL [[0, 1], [1, 0]] [1] = [3] := by unfold closeL closeFrom; decide +kernel
theorem closeL_two : closeL [[0, 1], [1, 1]] [1] = [1, 2] := by unfold closeL closeFrom; decide +kernel
theorem valid_one : yW [[0, 1], [1, 0]] = 0 := validE_assoc (by decide +kernel) (assoc_of_all (by
 unfold assAt
 decide +kernel))
theorem valid_two : yW [[0, 1], [1, 1]] = 0 := validE_assoc (by decide +kernel) (assoc_of_all (by
 unfold assAt
 decide +kernel))
theorem checkE_one : yT [[0, 1], [1, 0]] [1] = 0 := by
 rw [yT, valid_one]; decide +kernel
theorem checkE_two : yT [[0, 1], [1, 1]] [1] = 0 := by
 rw [yT, valid_two]; decide +kernel
theorem omegaP_one : omegaP [[0, 1], [1, 0]] 2 = 3 := by
 rw [omegaP, mayB, valid_one]; decide +kernel
theorem rowAt_block {W : World} {a e : Nat} {zs : List Int} {cs : Array Value} (ha : W.heap[a]? = some (.cells cs e (0, 0))) (hcs : cs.toList = ints zs) : RowAt W a 0 (ints zs) := by
 refine ⟨zR ha, fun i hi => ?_⟩
 have hi' : i < cs.size := by rw [← Array.length_toList, hcs]; exact hi
 rw [Nat.zero_add, zI ha i hi']
 congr 1
 rw [← Array.getElem_toList]
 simp only [hcs]
theorem row_block' {B : Nat} {W : World} {a e n : Nat} {zs : List Int} {cs : Array Value} (ha : W.heap[a]? = some (.cells cs e (0, 0))) (hcs : cs.toList = ints zs) (hn : zs.length = n) (hm : n ≤ maxLen) (hB : a < B) : Row B W (.slice (some ⟨a, 0, none⟩) n n) (ints zs) :=
 .inr ⟨a, 0, n, by rw [zM, hn], hB, by rw [zM]; omega, hm, rowAt_block ha hcs⟩
theorem mat_two {B : Nat} {W : World} {a b c e e' : Nat} {p q r s : Int} (ha : W.heap[a]? = some (.cells #[.int .i64 p, .int .i64 q] e (0, 0))) (hb : W.heap[b]? = some (.cells #[.int .i64 r, .int .i64 s] e (0, 0)))
  (hc : W.heap[c]? = some (.cells #[.slice (some ⟨a, 0, none⟩) 2 2, .slice (some ⟨b, 0, none⟩) 2 2] e' (0, 0))) (h1 : a < B) (h2 : b < B) (h3 : c < B) : Mat B W (.slice (some ⟨c, 0, none⟩) 2 2) [[p, q], [r, s]] := by
 have hm : 2 ≤ maxLen := by unfold maxLen; omega
 refine .inr ⟨c, 0, 2, fun x => if x = 0 then some ⟨a, 0, none⟩ else some ⟨b, 0, none⟩, fun _ => 2, rfl, by simp, hm, ⟨h3, zR hc, fun x hx => ?_, fun x hx => ?_⟩⟩
 ·have hx2 : x < 2 := by simpa using hx
  match x, hx2 with
  | 0, _ => exact zI hc 0 (by simp)
  | 1, _ => exact zI hc 1 (by simp)
 ·have hx2 : x < 2 := by simpa using hx
  match x, hx2 with
  | 0, _ => exact row_block' (zs := [p, q]) ha rfl rfl hm h1
  | 1, _ => exact row_block' (zs := [r, s]) hb rfl rfl hm h2
theorem laid4 (w : World) (c1 c2 c3 c4 : Array Value) (e1 e2 e3 e4 : Nat) : ∀ W, W = (((w.alloc (.cells c1 e1)).alloc (.cells c2 e2)).alloc (.cells c3 e3)).alloc (.cells c4 e4) →
  W.heap[w.heap.size]? = some (.cells c1 e1 (0, 0)) ∧ W.heap[w.heap.size + 1]? = some (.cells c2 e2 (0, 0)) ∧ W.heap[w.heap.size + 2]? = some (.cells c3 e3 (0, 0)) ∧ W.heap[w.heap.size + 3]? = some (.cells c4 e4 (0, 0)) ∧ w.grownBy W none ∧ W.heap.size = w.heap.size + 4 := by
 rintro W rfl
 have g1 := World.grownBy_alloc w (.cells c1 e1) none
 have g2 := World.grownBy_alloc (w.alloc (.cells c1 e1)) (.cells c2 e2) none
 have g3 := World.grownBy_alloc ((w.alloc (.cells c1 e1)).alloc (.cells c2 e2)) (.cells c3 e3) none
 have g4 := World.grownBy_alloc (((w.alloc (.cells c1 e1)).alloc (.cells c2 e2)).alloc (.cells c3 e3)) (.cells c4 e4) none
 have h1 := heap_alloc_new w (.cells c1 e1)
 have h2 := heap_alloc_new (w.alloc (.cells c1 e1)) (.cells c2 e2)
 have h3 := heap_alloc_new ((w.alloc (.cells c1 e1)).alloc (.cells c2 e2)) (.cells c3 e3)
 have h4 := heap_alloc_new (((w.alloc (.cells c1 e1)).alloc (.cells c2 e2)).alloc (.cells c3 e3)) (.cells c4 e4)
 simp only [zN] at h2 h3 h4
 exact ⟨zE h1 (zF (zF g2 g3) g4) (by simp), zE h2 (zF g3 g4) (by simp), zE h3 g4 (by simp), h4, zF (zF (zF g1 g2) g3) g4, by simp only [zN]⟩
theorem laid3 (w : World) (c1 c2 c3 : Array Value) (e1 e2 e3 : Nat) : ∀ W, W = ((w.alloc (.cells c1 e1)).alloc (.cells c2 e2)).alloc (.cells c3 e3) →
  W.heap[w.heap.size]? = some (.cells c1 e1 (0, 0)) ∧ W.heap[w.heap.size + 1]? = some (.cells c2 e2 (0, 0)) ∧ W.heap[w.heap.size + 2]? = some (.cells c3 e3 (0, 0)) ∧ w.grownBy W none ∧ W.heap.size = w.heap.size + 3 := by
 rintro W rfl
 have g1 := World.grownBy_alloc w (.cells c1 e1) none
 have g2 := World.grownBy_alloc (w.alloc (.cells c1 e1)) (.cells c2 e2) none
 have g3 := World.grownBy_alloc ((w.alloc (.cells c1 e1)).alloc (.cells c2 e2)) (.cells c3 e3) none
 have h1 := heap_alloc_new w (.cells c1 e1)
 have h2 := heap_alloc_new (w.alloc (.cells c1 e1)) (.cells c2 e2)
 have h3 := heap_alloc_new ((w.alloc (.cells c1 e1)).alloc (.cells c2 e2)) (.cells c3 e3)
 simp only [zN] at h2 h3
 exact ⟨zE h1 (zF g2 g3) (by simp), zE h2 g3 (by simp), h3, zF (zF g1 g2) g3, by simp only [zN]⟩
set_option maxHeartbeats 800000 in
theorem known40_any (w : World) (hT : TabOk w) : Calls Tryd.prog 17 #[] w fun e w' => e = .returned (.bool true) ∧ w.grownBy w' none := by
 have HT := Kh hT
 clear hT
 go_enter Tryd.func17, Tryd.ntmps17
 go_wp2_with fail
 obtain ⟨wA, hWA⟩ : ∃ wA, wA = (((w.alloc (.cells #[.int .i64 0, .int .i64 1] 3)).alloc (.cells #[.int .i64 1, .int .i64 0] 3)).alloc (.cells #[.slice (some ⟨w.heap.size, 0, none⟩) 2 2, .slice (some ⟨w.heap.size + 1, 0, none⟩) 2 2] 22)).alloc (.cells #[.int .i64 1] 3) := ⟨_, rfl⟩
 obtain ⟨h1, h2, h3, h4, hgA, hzA⟩ := laid4 w _ _ _ _ _ _ _ _ wA hWA
 rw [← hWA]
 have hcl := closure_any wA.heap.size wA _ _ [[0, 1], [1, 0]] [1] (Nat.le_refl _) (mat_two h1 h2 h3 (by omega) (by omega) (by omega)) (row_block' (n := 1) (zs := [1]) h4 rfl rfl (by unfold maxLen; omega) (by omega)) (HT.out.kept hgA (by simp))
 have HC := Kh hcl; have HGA := Kh hgA
 clear hcl hgA h1 h2 h3 h4 hWA
 refine HC.out.mono ?_
 rintro e w1 ⟨hg1, hc1⟩
 rcases hc1 with ⟨hne, _⟩ | ⟨_, v1, rfl, hr1⟩
 ·exact absurd checkE_one hne
 rw [closeL_one] at hr1
 have HG1 : Hid (w.grownBy w1 none) := Kh (zF HGA.out hg1)
 have HR1 : Hid (Row w1.heap.size w1 v1 (ints [3])) := Kh hr1
 have hz1 := hg1.size
 clear hr1 hg1 HC HGA
 go_wp2_with fail
 obtain ⟨wB, hWB⟩ : ∃ wB, wB = (((w1.alloc (.cells #[.int .i64 0, .int .i64 1] 3)).alloc (.cells #[.int .i64 1, .int .i64 1] 3)).alloc (.cells #[.slice (some ⟨w1.heap.size, 0, none⟩) 2 2, .slice (some ⟨w1.heap.size + 1, 0, none⟩) 2 2] 22)).alloc (.cells #[.int .i64 1] 3) := ⟨_, rfl⟩
 obtain ⟨h1, h2, h3, h4, hgB, hzB⟩ := laid4 w1 _ _ _ _ _ _ _ _ wB hWB
 rw [← hWB]
 have hcl := closure_any wB.heap.size wB _ _ [[0, 1], [1, 1]] [1] (Nat.le_refl _) (mat_two h1 h2 h3 (by omega) (by omega) (by omega)) (row_block' (n := 1) (zs := [1]) h4 rfl rfl (by unfold maxLen; omega) (by omega)) (HT.out.kept (zF HG1.out hgB) (by simp))
 have HC := Kh hcl; have HGB := Kh hgB
 clear hcl hgB h1 h2 h3 h4 hWB
 refine HC.out.mono ?_
 rintro e w2 ⟨hg2, hc2⟩
 rcases hc2 with ⟨hne, _⟩ | ⟨_, v2, rfl, hr2⟩
 ·exact absurd checkE_two hne
 rw [closeL_two] at hr2
 have HG12 : Hid (w1.grownBy w2 none) := Kh (zF HGB.out hg2)
 have HR2 : Hid (Row w2.heap.size w2 v2 (ints [1, 2])) := Kh hr2
 have hz2 := hg2.size
 clear hr2 hg2 HC HGB
 have HGA3 := Kh (World.grownBy_alloc w2 (.cells #[.int .i64 3] 3) none)
 have HS3 := Kh (sF w1.heap.size (w2.heap.size + 1) (w2.alloc (.cells #[.int .i64 3] 3)) v1 _ [3] [3] ((HR1.out.kept HG12.out (by simp)).kept HGA3.out (by simp)) (row_lit w2 [3] #[.int .i64 3] rfl 1 rfl (by unfold maxLen; omega)))
 go_wp2_with fail
 refine HS3.out.mono ?_
 rintro e w3 ⟨rfl, m3, rfl⟩
 have HG3 := Kh (zF HGA3.out (zP (w2.alloc (.cells #[.int .i64 3] 3)) m3 none))
 obtain ⟨w3, hw3⟩ : ∃ w3, w3 = (w2.alloc (.cells #[.int .i64 3] 3)).drewN m3 := ⟨_, rfl⟩
 rw [← hw3] at HG3 ⊢
 clear hw3 HS3 HGA3
 have HGA4 := Kh (World.grownBy_alloc w3 (.cells #[.int .i64 1, .int .i64 2] 3) none)
 have HS4 := Kh (sF w2.heap.size (w3.heap.size + 1) (w3.alloc (.cells #[.int .i64 1, .int .i64 2] 3)) v2 _ [1, 2] [1, 2] ((HR2.out.kept HG3.out (by simp)).kept HGA4.out (by simp)) (row_lit w3 [1, 2] #[.int .i64 1, .int .i64 2] rfl 2 rfl (by unfold maxLen; omega)))
 go_wp2_with fail
 refine HS4.out.mono ?_
 rintro e w4 ⟨rfl, m4, rfl⟩
 have HG4 := Kh (zF HGA4.out (zP (w3.alloc (.cells #[.int .i64 1, .int .i64 2] 3)) m4 none))
 obtain ⟨w4, hw4⟩ : ∃ w4, w4 = (w3.alloc (.cells #[.int .i64 1, .int .i64 2] 3)).drewN m4 := ⟨_, rfl⟩
 rw [← hw4] at HG4 ⊢
 clear hw4 HS4 HGA4
 have HGW : Hid (w.grownBy w4 none) := Kh (zF (zF (zF HG1.out HG12.out) HG3.out) HG4.out)
 go_wp2_with fail
 obtain ⟨wC, hWC⟩ : ∃ wC, wC = ((w4.alloc (.cells #[.int .i64 0, .int .i64 1] 3)).alloc (.cells #[.int .i64 1, .int .i64 0] 3)).alloc (.cells #[.slice (some ⟨w4.heap.size, 0, none⟩) 2 2, .slice (some ⟨w4.heap.size + 1, 0, none⟩) 2 2] 22) := ⟨_, rfl⟩
 obtain ⟨h1, h2, h3, hgC, hzC⟩ := laid3 w4 _ _ _ _ _ _ wC hWC
 rw [← hWC]
 have hom := pomega_any wC.heap.size wC _ [[0, 1], [1, 0]] 2 (Nat.le_refl _) (mat_two h1 h2 h3 (by omega) (by omega) (by omega)) (HT.out.kept (zF HGW.out hgC) (by simp))
 rw [omegaP_one] at hom
 have HOM := Kh hom; have HGC := Kh hgC
 clear hom hgC h1 h2 h3 hWC
 refine HOM.out.mono ?_
 rintro e w5 ⟨rfl, hg5⟩
 have HG5 := Kh hg5
 clear hg5
 go_wp2
 go_ret
 exact ⟨yS rfl, zF (zF HGW.out HGC.out) HG5.out⟩
theorem TableE.le {most : Nat} {T : List (List Nat)} {im : List Nat} (h : TableE most T im) : T.length ≤ 400 := by
 have key : ∀ (d : DfaV) (S : SynV), Of21E d (some S) → S.tab.length ≤ 400 := fun d S h => by
  obtain ⟨n, k, m, M, _, _, _, _, el, pr, la, ri, mm, _, h1, _, h2, _⟩ := h
  rw [h2, tF]; exact h1
 rcases h with ⟨d, n, k, S, _, _, h1, _, rfl, _⟩ | ⟨d, n, S, _, _, _, h1, rfl, _⟩
 ·exact key d S h1
 ·cases S with
  | none => simp [SynPart]
  | some S => exact key d S h1
noncomputable def beginF (t : List (List Int)) (im : List Int) : List Nat := if yT t im = 0 then vQ t im else []
noncomputable def closeF (t : List (List Int)) (im : List Int) : List Nat := if yT t im = 0 then closeL t im else []
noncomputable def advF (t : List (List Int)) (im zs : List Int) (d : Bool) (bud : Int) : List Nat × Bool := if advE t im zs bud = 0 then advL t zs d bud else ([], false)
theorem BeginOk.uni {w w' : World} {t : List (List Int)} {im : List Int} {e : Ending} (h : BeginOk w t im e w') : ∃ (a : Option Addr) (c : Nat), e = .returned (.tuple #[.agg #[.slice a (beginF t im).length c, .bool false], .int .i64 (yT t im)]) ∧ Row w'.heap.size w' (.slice a (beginF t im).length c) (nats (beginF t im)) ∧ w.grownBy w' none := by
 obtain ⟨hg, ⟨hc, rfl⟩ | ⟨hc, sa, sc, rfl, ho⟩⟩ := h
 ·rw [beginF, if_neg hc]
  exact ⟨none, 0, rfl, .inl ⟨none, 0, rfl, rfl⟩, hg⟩
 ·rw [beginF, if_pos hc]
  exact ⟨sa, sc, by rw [hc], Row.of_owns ho, hg⟩
theorem ClosureOk.uni {w w' : World} {t : List (List Int)} {im : List Int} {e : Ending} (h : ClosureOk w t im e w') : ∃ (a : Option Addr) (c : Nat), e = .returned (.tuple #[.slice a (closeF t im).length c, .int .i64 (yT t im)]) ∧ Row w'.heap.size w' (.slice a (closeF t im).length c) (nats (closeF t im)) ∧ w.grownBy w' none := by
 obtain ⟨hg, ⟨hc, rfl⟩ | ⟨hc, v, rfl, ho⟩⟩ := h
 ·rw [closeF, if_neg hc]
  exact ⟨none, 0, rfl, .inl ⟨none, 0, rfl, rfl⟩, hg⟩
 ·rw [closeF, if_pos hc]
  obtain ⟨a, c, rfl⟩ := ho.shape
  rw [zL] at ho ⊢
  exact ⟨a, c, by rw [hc], ho, hg⟩
theorem AdvOk.uni {w w' : World} {t : List (List Int)} {im zs : List Int} {d : Bool} {bud : Int} {e : Ending} (h : AdvOk w t im zs d bud e w') : ∃ (a : Option Addr) (c : Nat), e = .returned (.tuple #[.agg #[.slice a (advF t im zs d bud).1.length c, .bool (advF t im zs d bud).2], .int .i64 (advE t im zs bud)]) ∧ Row w'.heap.size w' (.slice a (advF t im zs d bud).1.length c) (nats (advF t im zs d bud).1) ∧ w.grownBy w' none := by
 obtain ⟨hg, ⟨hc, rfl⟩ | ⟨hc, v, rfl, ho⟩⟩ := h
 ·rw [advF, if_neg hc]
  exact ⟨none, 0, rfl, .inl ⟨none, 0, rfl, rfl⟩, hg⟩
 ·rw [advF, if_pos hc]
  obtain ⟨a, c, rfl⟩ := ho.shape
  rw [zL] at ho ⊢
  exact ⟨a, c, by rw [hc], ho, hg⟩
theorem lawsame_same (w : World) (B C : Nat) (va vb : Value) (l : List Nat) (d : Bool) (hB : B ≤ w.heap.size) (hC : C ≤ w.heap.size) (ha : Row B w va (nats l)) (hb : Row C w vb (nats l)) :
  Calls Tryd.prog 26 #[.agg #[va, .bool d], .agg #[vb, .bool d]] w fun r w' => r = .returned (.bool true) ∧ w.grownBy w' none := by
 rw [sV] at ha hb
 refine (lawsame_any B C w va vb _ _ d d hB hC ha hb).mono ?_
 rintro e w' ⟨rfl, hg⟩
 exact ⟨by simp, hg⟩
theorem Row.kept_box {B : Nat} {w w' : World} {v : Value} {l : List Nat} {o e : Nat} {sa : Option Addr} {sn sc : Nat} {bb : Bool} {m : Nat × Nat} (h : Row B w v (nats l)) (hb : w.heap[o]? = some (.cells #[.slice sa sn sc, .bool bb] e m)) (hg : w.grownBy w' (some o)) : Row B w' v (nats l) := by
 rcases h with h | ⟨b, off, cap, h1, h2, h3, h4, h5⟩
 ·exact .inl h
 ·refine .inr ⟨b, off, cap, h1, h2, h3, h4, Nat.lt_of_lt_of_le h5.1 hg.size, fun i hi => ?_⟩
  have hc := h5.2 i hi
  by_cases e1 : b = o
  ·exfalso
   subst e1
   rw [cell_of_row w b (off + i) _ _ _ hb] at hc
   have hx : (nats l)[i] = .int .i64 ((l.getD i 0 : Nat) : Int) := nats_at hi
   rw [hx] at hc
   have hm := Array.mem_of_getElem? hc
   simp at hm
  ·exact (World.cell?_of_block (hg.block b (World.block_lt_of_cell? w _ hc) (fun e2 => e1 (Option.some.inj e2)))).trans hc
theorem uQ {w : World} {p e : Nat} {x0 x1 : Value} (h : w.heap[p]? = some (.cells #[x0, x1] e (0, 0))) : w.cell? ⟨p, 0, none⟩ = some x0 ∧ w.cell? ⟨p, 1, none⟩ = some x1 := by
 have c0 := zI h 0 (by simp)
 have c1 := zI h 1 (by simp)
 exact ⟨by simpa using c0, by simpa using c1⟩
theorem box2_set {w : World} {p e : Nat} {z0 z1 : Value} (h : w.heap[p]? = some (.cells #[z0, z1] e (0, 0))) (x0 x1 : Value) : ((w.setCell ⟨p, 0, none⟩ x0).setCell ⟨p, 1, none⟩ x1).heap[p]? = some (.cells #[x0, x1] e (0, 0)) ∧ w.grownBy ((w.setCell ⟨p, 0, none⟩ x0).setCell ⟨p, 1, none⟩ x1) (some p) := by
 have s0 := heap_setCell_same w p 0 _ _ x0 h
 have s1 := heap_setCell_same _ p 1 _ _ x1 s0
 exact ⟨by rw [s1]; simp, zF (zH w ⟨p, 0, none⟩ x0) (zH _ ⟨p, 1, none⟩ x1)⟩
set_option maxRecDepth 100000 in
set_option maxHeartbeats 2000000 in
theorem rounds_walk (w : World) (sl : Value) (zs : List Int) (bu : Int) (h : Row w.heap.size w sl (zs.map (Value.int .i64))) (hT : TabOk w) :
  Calls Tryd.prog 5 #[sl, .int .i64 bu] w fun e w' => e = .returned (.bool true) ∧ w.grownBy w' none := by
 obtain ⟨sA, sC, rfl⟩ := h.shape
 obtain ⟨sl, hsl⟩ : ∃ sl, sl = (zs.map (Value.int .i64)).length := ⟨_, rfl⟩
 rw [← hsl] at h ⊢
 have HNW := Kh (new_any w.heap.size w (.slice sA sl sC) zs h (Nat.le_refl _))
 have HT := Kh hT
 clear h hT hsl
 go_enter Tryd.func5, Tryd.ntmps5
 go_wp2_with fail
 refine HNW.out.mono ?_
 rintro e w1 ⟨rfl, hT1, hg1⟩
 have HTA := Kh (table40_any w.heap.size w.heap.size 8 w1 (by omega) hT1)
 have HG1 := Kh hg1
 clear hT1 hg1
 go_wp2_with fail
 refine HTA.out.mono ?_
 rintro e w2 ⟨T, im0, vT, vI, rfl, hTm, hIm, hTE, hTp, hg2⟩
 have hg02 := zG HG1.out hg2 (fun j e => by have e : w.heap.size = j := Option.some.inj e; omega)
 have HG2 := Kh hg02
 have HT2 := Kh (HT.out.kept hg02 (by simp))
 have hmat := (TMatT.tmat hTm).mat
 have him := hIm.row
 rw [sV] at him
 obtain ⟨tA, tC, rfl⟩ := (TMatT.tmat hTm).shape
 obtain ⟨iA, iC, rfl⟩ := hIm.shape
 obtain ⟨t, ht⟩ : ∃ t, t = tabI T := ⟨_, rfl⟩
 obtain ⟨im, him2⟩ : ∃ im, im = im0.map fun (x : Nat) => (x : Int) := ⟨_, rfl⟩
 obtain ⟨tl, htl⟩ : ∃ tl, tl = T.length := ⟨_, rfl⟩
 obtain ⟨il, hil⟩ : ∃ il, il = (nats im0).length := ⟨_, rfl⟩
 rw [← ht, ← htl] at hmat
 rw [← him2, ← hil] at him
 rw [← htl, ← hil]
 have HM2 := Kh hmat; have HI2 := Kh him; have HGA2 := Kh (zS w2 none)
 clear hTm hIm hTE hTp hg2 hg02 hmat ht htl him him2 hil
 go_wp2_with fail
 refine (begin_any w2.heap.size w2 _ _ t im (Nat.le_refl _) HM2.out HI2.out HT2.out).mono ?_
 intro e w3 hb
 obtain ⟨a3, c3, rfl, hr3, hg3⟩ := hb.uni
 clear hb
 obtain ⟨L, hL⟩ : ∃ L, L = beginF t im := ⟨_, rfl⟩
 obtain ⟨ce, hce⟩ : ∃ ce, ce = yT t im := ⟨_, rfl⟩
 have HL := Kh hL; have HCE := Kh hce
 rw [← HL.out] at hr3
 rw [← HL.out, ← HCE.out]
 obtain ⟨w4, hw4⟩ : ∃ W, W = w3.alloc (.cells #[.slice a3 L.length c3, .bool false] 49) := ⟨_, rfl⟩
 have hg4' : w3.grownBy w4 none := by rw [hw4]; exact World.grownBy_alloc w3 _ none
 have hb4 := heap_alloc_new w3 (.cells #[.slice a3 L.length c3, .bool false] 49)
 rw [← hw4] at hb4
 obtain ⟨o4, ho4⟩ : ∃ o, o = w3.heap.size := ⟨_, rfl⟩
 rw [← ho4] at hb4
 have HG3 := Kh (zG HG2.out hg3 (by simp)); have HGA3 := Kh (zG HGA2.out hg3 (by simp)); have HM3 := Kh (HM2.out.kept hg3 (by simp)); have HI3 := Kh (HI2.out.kept hg3 (by simp)); have HT3 := Kh (HT2.out.kept hg3 (by simp))
 have hg4 := hg4'
 have HG4 := Kh (zG HG3.out hg4 (by simp)); have HGA4 := Kh (zG HGA3.out hg4 (by simp)); have HM4 := Kh (HM3.out.kept hg4 (by simp)); have HI4 := Kh (HI3.out.kept hg4 (by simp)); have HT4 := Kh (HT3.out.kept hg4 (by simp))
 have HW4 := Kh hw4; have HEo4 := Kh ho4; have HR4 := Kh ((hr3.kept hg4 (by simp)).mono hg4.size); have HB4 := Kh hb4
 have HO4 : Hid (w2.heap.size ≤ o4) := Kh (by rw [ho4]; exact HGA3.out.size); have HO4W : Hid (w.heap.size ≤ o4) := Kh (by rw [ho4]; exact HG3.out.size)
 clear hr3 hg3 hg4 hg4' hw4 ho4 hb4 hL hce
 go_upto_region 3 with fail
 rw [← HW4.out, ← HEo4.out]
 go_wp2_with fail
 refine (rbegin_any w2.heap.size w4 _ _ t im HGA4.out.size HM4.out HI4.out).mono ?_
 intro e w5 hb
 obtain ⟨a5, c5, rfl, hr5, hg5⟩ := hb.uni
 clear hb
 rw [← HL.out] at hr5
 rw [← HL.out, ← HCE.out]
 obtain ⟨w6, hw6⟩ : ∃ W, W = w5.alloc (.cells #[.slice a5 L.length c5, .bool false] 49) := ⟨_, rfl⟩
 have hg6' : w5.grownBy w6 none := by rw [hw6]; exact World.grownBy_alloc w5 _ none
 have hb6 := heap_alloc_new w5 (.cells #[.slice a5 L.length c5, .bool false] 49)
 rw [← hw6] at hb6
 obtain ⟨o6, ho6⟩ : ∃ o, o = w5.heap.size := ⟨_, rfl⟩
 rw [← ho6] at hb6
 have HG5 := Kh (zG HG4.out hg5 (by simp)); have HGA5 := Kh (zG HGA4.out hg5 (by simp)); have HM5 := Kh (HM4.out.kept hg5 (by simp)); have HI5 := Kh (HI4.out.kept hg5 (by simp)); have HT5 := Kh (HT4.out.kept hg5 (by simp))
 have hg6 := hg6'
 have HG6 := Kh (zG HG5.out hg6 (by simp)); have HGA6 := Kh (zG HGA5.out hg6 (by simp)); have HM6 := Kh (HM5.out.kept hg6 (by simp)); have HI6 := Kh (HI5.out.kept hg6 (by simp)); have HT6 := Kh (HT5.out.kept hg6 (by simp))
 have HW6 := Kh hw6; have HEo6 := Kh ho6; have HR6 := Kh ((hr5.kept hg6 (by simp)).mono hg6.size); have HB6 := Kh hb6
 have HO6 : Hid (w2.heap.size ≤ o6) := Kh (by rw [ho6]; exact HGA5.out.size); have HO6W : Hid (w.heap.size ≤ o6) := Kh (by rw [ho6]; exact HG5.out.size)
 have HB46 := Kh (zE (zE HB4.out hg5 (by simp)) hg6 (by simp))
 have HR46 := Kh ((HR4.out.kept hg5 (by simp)).kept hg6 (by simp))
 have ho46 : o4 < o6 := by have := zR HB4.out; have := hg5.size; omega
 have HO46 := Kh ho46
 have HZ4 := Kh (show w4.heap.size ≤ w6.heap.size from Nat.le_trans hg5.size hg6.size)
 clear hr5 hg5 hg6 hg6' hw6 ho6 hb6 ho46
 go_upto_region 4 with fail
 rw [← HW6.out, ← HEo6.out]
 obtain ⟨x0, x1⟩ := uQ HB46.out
 obtain ⟨y0, y1⟩ := uQ HB6.out
 go_wp2_with fail
 refine (lawsame_same w6 w4.heap.size w6.heap.size _ _ L false HZ4.out (Nat.le_refl _) HR46.out HR6.out).mono ?_
 rintro e w7 ⟨rfl, hg7⟩
 have HG7 := Kh (zG HG6.out hg7 (by simp)); have HGA7 := Kh (zG HGA6.out hg7 (by simp)); have HM7 := Kh (HM6.out.kept hg7 (by simp)); have HI7 := Kh (HI6.out.kept hg7 (by simp)); have HT7 := Kh (HT6.out.kept hg7 (by simp))
 have HB47 := Kh (zE HB46.out hg7 (by simp)); have HB67 := Kh (zE HB6.out hg7 (by simp)); have HR7 := Kh (HR6.out.kept hg7 (by simp))
 have HZ7 := Kh hg7.size
 clear hg7 x0 x1 y0 y1
 obtain ⟨w8, hw8⟩ : ∃ w8, w8 = w7.drew := ⟨_, rfl⟩
 have hg8 : w7.grownBy w8 none := by rw [hw8]; exact yF w7 none
 have HG8 := Kh (zG HG7.out hg8 (by simp)); have HGA8 := Kh (zG HGA7.out hg8 (by simp)); have HM8 := Kh (HM7.out.kept hg8 (by simp)); have HI8 := Kh (HI7.out.kept hg8 (by simp)); have HT8 := Kh (HT7.out.kept hg8 (by simp))
 have HW8 := Kh hw8
 have HB48 := Kh (zE HB47.out hg8 (by simp)); have HB68 := Kh (zE HB67.out hg8 (by simp)); have HR8 := Kh (HR7.out.kept hg8 (by simp))
 have C := Kh (uQ HB68.out)
 have hr8 := HR8.out
 rw [sV] at hr8
 obtain ⟨zl, hzl⟩ : ∃ zl, zl = L.map fun (x : Nat) => (x : Int) := ⟨_, rfl⟩
 have HZL := Kh hzl
 rw [← hzl] at hr8
 have HADV := Kh (fun bud => advance_any w8.heap.size w8 _ _ _ t im zl false bud (Nat.le_refl _) (HM8.out.mono HGA8.out.size) (HI8.out.mono HGA8.out.size) (hr8.mono (Nat.le_trans HZ7.out hg8.size)) HT8.out)
 have HZ8 := Kh hg8.size
 clear hw8 hg8 hzl hr8
 go_upto_region 6 with fail
 refine wp_region_noPanic ?_
 refine yO (G := Until 10 (fun _ => True) (fun W => W.cell? ⟨o6, 0, none⟩ = some (.slice a5 L.length c5) ∧ W.cell? ⟨o6, 1, none⟩ = some (.bool false))) (by kernel_rfl) ?_
 rw [← HW8.out]
 refine takeC (i := 0) (v := ?_) rfl rfl (Or.inl ⟨by rfl, ?_⟩) ⟨trivial, fun _ => C.out⟩ ?_
 rotate_left
 ·(intro wz hz; (try dsimp only at hz); go_simp; (try with_reducible rfl))
 try simp only [Act.put, sPa, sPb, sPc]
 refine takeC (i := 1) (v := ?_) rfl rfl (Or.inl ⟨by rfl, ?_⟩) ⟨trivial, fun _ => C.out⟩ ?_
 rotate_left
 ·(intro wz hz; (try dsimp only at hz); go_simp; (try with_reducible rfl))
 try simp only [Act.put, sPa, sPb, sPc]
 refine takeD (i := 2) (v := ?_) rfl rfl (Or.inl ⟨by rfl, ?_⟩) ⟨trivial, fun _ => C.out⟩ ?_
 rotate_left
 ·(rintro wz ⟨-, hz⟩; (try dsimp only at hz); go_simp; (try with_reducible rfl))
 try simp only [Act.put, sPa, sPb, sPc]
 refine takeC (i := 3) (v := ?_) rfl rfl (Or.inl ⟨by rfl, ?_⟩) ⟨trivial, fun _ => C.out⟩ ?_
 rotate_left
 ·(intro wz hz; (try dsimp only at hz); go_simp; (try with_reducible rfl))
 try simp only [Act.put, sPa, sPb, sPc]
 refine oneG (i := 4) (by kernel_rfl) rfl (fun K hK => ?_)
 go_simp
 go_at_call 19
 refine (mod_any _ _ _ (by omega)).mono ?_
 rintro e wq ⟨rfl, rfl⟩
 obtain ⟨r, hrr⟩ : ∃ r, r = modI bu 6 := ⟨_, rfl⟩
 have HRR := Kh hrr
 clear hrr
 rw [← HRR.out]
 refine hK.out _ _ ⟨trivial, fun _ => C.out⟩ ?_
 clear hK K
 try simp only [Act.put, sPa, sPb, sPc]
 refine takeC (i := 5) (v := ?_) rfl rfl (Or.inl ⟨by rfl, ?_⟩) ⟨trivial, fun _ => C.out⟩ ?_
 rotate_left
 ·(intro wz hz; (try dsimp only at hz); go_simp; (try with_reducible rfl))
 try simp only [Act.put, sPa, sPb, sPc]
 obtain ⟨bx, hbx⟩ : ∃ bx, bx = IntKind.i64.wrap (1 + r) := ⟨_, rfl⟩
 have HBX := Kh hbx
 clear hbx
 rw [← HBX.out]
 refine oneG (i := 6) (by kernel_rfl) rfl (fun K hK => ?_)
 go_simp
 go_at_call 27
 refine (HADV.out _).mono ?_
 intro e w9 hb
 obtain ⟨a9, c9, rfl, hr9, hg9⟩ := hb.uni
 clear hb
 obtain ⟨F, hF⟩ : ∃ F, F = advF t im zl false bx := ⟨_, rfl⟩
 obtain ⟨ca, hca⟩ : ∃ ca, ca = advE t im zl bx := ⟨_, rfl⟩
 have HF := Kh hF; have HCA := Kh hca
 clear hF hca
 rw [← HF.out] at hr9
 rw [← HF.out, ← HCA.out]
 have CN : Hid (w9.cell? ⟨o6, 0, none⟩ = some (.slice a5 L.length c5) ∧ w9.cell? ⟨o6, 1, none⟩ = some (.bool false)) := Kh ⟨zY C.out.1 hg9, zY C.out.2 hg9⟩
 refine hK.out _ _ ⟨trivial, fun _ => CN.out⟩ ?_
 have HG9 := Kh (zG HG8.out hg9 (by simp)); have HGA9 := Kh (zG HGA8.out hg9 (by simp)); have HM9 := Kh (HM8.out.kept hg9 (by simp)); have HI9 := Kh (HI8.out.kept hg9 (by simp)); have HT9 := Kh (HT8.out.kept hg9 (by simp))
 have HB49 := Kh (zE HB48.out hg9 (by simp)); have HB69 := Kh (zE HB68.out hg9 (by simp))
 have HRN := Kh hr9; have HZN := Kh hg9.size
 have HG89 := Kh hg9
 clear hK K C hr9 hg9
 try simp only [Act.put, sPa, sPb, sPc]
 refine takeC (i := 7) (v := ?_) rfl rfl (Or.inl ⟨by rfl, ?_⟩) ⟨trivial, fun _ => CN.out⟩ ?_
 rotate_left
 ·(intro wz hz; (try dsimp only at hz); go_simp; (try with_reducible rfl))
 try simp only [Act.put, sPa, sPb, sPc]
 refine takeC (i := 8) (v := ?_) rfl rfl (Or.inl ⟨by rfl, ?_⟩) ⟨trivial, fun _ => CN.out⟩ ?_
 rotate_left
 ·(intro wz hz; (try dsimp only at hz); go_simp; (try with_reducible rfl))
 try simp only [Act.put, sPa, sPb, sPc]
 refine takeC (i := 9) (v := ?_) rfl rfl (Or.inl ⟨by rfl, ?_⟩) ⟨trivial, fun _ => CN.out⟩ ?_
 rotate_left
 ·(intro wz hz; (try dsimp only at hz); go_simp; (try with_reducible rfl))
 try simp only [Act.put, sPa, sPb, sPc]
 refine oneG (i := 10) (by kernel_rfl) rfl (fun K hK => ?_)
 obtain ⟨k0, k1⟩ := uQ HB49.out
 have f0 := zD HB49.out 0; have f1 := zD HB49.out 1
 go_simp
 refine hK.out _ _ ⟨trivial, fun h => by simp at h⟩ ?_
 obtain ⟨hs10, hg10⟩ := box2_set HB49.out (.slice a9 F.1.length c9) (.bool F.2)
 obtain ⟨w10, hw10⟩ : ∃ W, W = (w9.setCell ⟨o4, 0, none⟩ (.slice a9 F.1.length c9)).setCell ⟨o4, 1, none⟩ (.bool F.2) := ⟨_, rfl⟩
 rw [← hw10] at hs10 hg10 ⊢
 clear hK K k0 k1 f0 f1 CN
 have HG10 := Kh (zG HG9.out hg10 (fun j e => by have e : o4 = j := Option.some.inj e; have := HO4W.out; omega))
 have HGA10 := Kh (zG HGA9.out hg10 (fun j e => by have e : o4 = j := Option.some.inj e; have := HO4.out; omega))
 have HM10 := Kh (HM9.out.kept hg10 (fun j e => by have e : o4 = j := Option.some.inj e; have := HO4.out; omega))
 have HI10 := Kh (HI9.out.kept hg10 (fun j e => by have e : o4 = j := Option.some.inj e; have := HO4.out; omega))
 have HT10 := Kh (HT9.out.kept hg10 (fun e => by have e := Option.some.inj e; have := HO4.out; have := HT2.out.1; omega))
 have HB410 := Kh hs10; have HB610 := Kh (zE HB69.out hg10 (fun e => by have e := Option.some.inj e; have := HO46.out; omega))
 have HS10 := Kh hg10
 have hoN : o4 < w9.heap.size := zR HB49.out
 have HRF10 := Kh ((HRN.out.kept_box HB49.out hg10).mono hg10.size)
 clear hs10 hg10 hw10 HRN HZN hoN
 try simp only [Act.put, sPa, sPb, sPc]
 refine oneG (i := 11) (by kernel_rfl) rfl (fun K hK => ?_)
 go_simp
 refine hK.out _ _ ⟨trivial, fun h => by simp at h⟩ ?_
 clear hK K
 try simp only [Act.put, sPa, sPb, sPc]
 refine doneG (by kernel_rfl) ?_ _
 refine NoPanic.normal ?_
 obtain ⟨w11, hw11⟩ : ∃ W, W = w10.drew := ⟨_, rfl⟩
 have hg11 : w10.grownBy w11 none := by rw [hw11]; exact yF w10 none
 have HG11 := Kh (zG HG10.out hg11 (by simp)); have HGA11 := Kh (zG HGA10.out hg11 (by simp)); have HM11 := Kh (HM10.out.kept hg11 (by simp)); have HI11 := Kh (HI10.out.kept hg11 (by simp)); have HT11 := Kh (HT10.out.kept hg11 (by simp))
 have HW11 := Kh hw11
 have HZ11 := Kh hg11.size
 have HB411 := Kh (zE HB410.out hg11 (by simp)); have HB611 := Kh (zE HB610.out hg11 (by simp)); have HRF11 := Kh (HRF10.out.kept hg11 (by simp))
 have hrl : Row w11.heap.size w11 (.slice a5 L.length c5) (nats L) := by
  have := ((HR8.out.mono (Nat.le_trans HZ7.out HZ8.out)).kept HG89.out (by simp))
  exact (((this.mono HG89.out.size).kept_box HB49.out HS10.out).mono HS10.out.size).kept hg11 (by simp) |>.mono hg11.size
 rw [sV, ← HZL.out] at hrl
 have C := Kh (uQ HB611.out)
 have HADV := Kh (fun bud => radvance_any w11.heap.size w11 _ _ _ t im zl false bud (Nat.le_refl _) (HM11.out.mono HGA11.out.size) (HI11.out.mono HGA11.out.size) hrl)
 clear hw11 hg11 hrl
 go_upto_region 7 with fail
 refine wp_region_noPanic ?_
 refine yO (G := Until 10 (fun _ => True) (fun W => W.cell? ⟨o6, 0, none⟩ = some (.slice a5 L.length c5) ∧ W.cell? ⟨o6, 1, none⟩ = some (.bool false))) (by kernel_rfl) ?_
 rw [← HW11.out]
 refine takeC (i := 0) (v := ?_) rfl rfl (Or.inl ⟨by rfl, ?_⟩) ⟨trivial, fun _ => C.out⟩ ?_
 rotate_left
 ·(intro wz hz; (try dsimp only at hz); go_simp; (try with_reducible rfl))
 try simp only [Act.put, sPa, sPb, sPc]
 refine takeC (i := 1) (v := ?_) rfl rfl (Or.inl ⟨by rfl, ?_⟩) ⟨trivial, fun _ => C.out⟩ ?_
 rotate_left
 ·(intro wz hz; (try dsimp only at hz); go_simp; (try with_reducible rfl))
 try simp only [Act.put, sPa, sPb, sPc]
 refine takeD (i := 2) (v := ?_) rfl rfl (Or.inl ⟨by rfl, ?_⟩) ⟨trivial, fun _ => C.out⟩ ?_
 rotate_left
 ·(rintro wz ⟨-, hz⟩; (try dsimp only at hz); go_simp; (try with_reducible rfl))
 try simp only [Act.put, sPa, sPb, sPc]
 refine takeC (i := 3) (v := ?_) rfl rfl (Or.inl ⟨by rfl, ?_⟩) ⟨trivial, fun _ => C.out⟩ ?_
 rotate_left
 ·(intro wz hz; (try dsimp only at hz); go_simp; (try with_reducible rfl))
 try simp only [Act.put, sPa, sPb, sPc]
 refine oneG (i := 4) (by kernel_rfl) rfl (fun K hK => ?_)
 go_simp
 go_at_call 19
 refine (mod_any _ _ _ (by omega)).mono ?_
 rintro e wq ⟨rfl, rfl⟩
 rw [← HRR.out]
 refine hK.out _ _ ⟨trivial, fun _ => C.out⟩ ?_
 clear hK K
 try simp only [Act.put, sPa, sPb, sPc]
 refine takeC (i := 5) (v := ?_) rfl rfl (Or.inl ⟨by rfl, ?_⟩) ⟨trivial, fun _ => C.out⟩ ?_
 rotate_left
 ·(intro wz hz; (try dsimp only at hz); go_simp; (try with_reducible rfl))
 try simp only [Act.put, sPa, sPb, sPc]
 rw [← HBX.out]
 refine oneG (i := 6) (by kernel_rfl) rfl (fun K hK => ?_)
 go_simp
 go_at_call 28
 refine (HADV.out _).mono ?_
 intro e w12 hb
 obtain ⟨a12, c12, rfl, hr12, hg12⟩ := hb.uni
 clear hb
 rw [← HF.out] at hr12
 rw [← HF.out, ← HCA.out]
 have CN : Hid (w12.cell? ⟨o6, 0, none⟩ = some (.slice a5 L.length c5) ∧ w12.cell? ⟨o6, 1, none⟩ = some (.bool false)) := Kh ⟨zY C.out.1 hg12, zY C.out.2 hg12⟩
 refine hK.out _ _ ⟨trivial, fun _ => CN.out⟩ ?_
 have HG12 := Kh (zG HG11.out hg12 (by simp)); have HGA12 := Kh (zG HGA11.out hg12 (by simp)); have HM12 := Kh (HM11.out.kept hg12 (by simp)); have HI12 := Kh (HI11.out.kept hg12 (by simp)); have HT12 := Kh (HT11.out.kept hg12 (by simp))
 have HB412 := Kh (zE HB411.out hg12 (by simp)); have HB612 := Kh (zE HB611.out hg12 (by simp))
 have HRF12 := Kh (HRF11.out.kept hg12 (by simp))
 have HRN := Kh hr12; have HZN := Kh hg12.size
 clear hK K C hr12 hg12
 try simp only [Act.put, sPa, sPb, sPc]
 refine takeC (i := 7) (v := ?_) rfl rfl (Or.inl ⟨by rfl, ?_⟩) ⟨trivial, fun _ => CN.out⟩ ?_
 rotate_left
 ·(intro wz hz; (try dsimp only at hz); go_simp; (try with_reducible rfl))
 try simp only [Act.put, sPa, sPb, sPc]
 refine takeC (i := 8) (v := ?_) rfl rfl (Or.inl ⟨by rfl, ?_⟩) ⟨trivial, fun _ => CN.out⟩ ?_
 rotate_left
 ·(intro wz hz; (try dsimp only at hz); go_simp; (try with_reducible rfl))
 try simp only [Act.put, sPa, sPb, sPc]
 refine takeC (i := 9) (v := ?_) rfl rfl (Or.inl ⟨by rfl, ?_⟩) ⟨trivial, fun _ => CN.out⟩ ?_
 rotate_left
 ·(intro wz hz; (try dsimp only at hz); go_simp; (try with_reducible rfl))
 try simp only [Act.put, sPa, sPb, sPc]
 refine oneG (i := 10) (by kernel_rfl) rfl (fun K hK => ?_)
 obtain ⟨k0, k1⟩ := uQ HB612.out
 have f0 := zD HB612.out 0; have f1 := zD HB612.out 1
 go_simp
 refine hK.out _ _ ⟨trivial, fun h => by simp at h⟩ ?_
 obtain ⟨hs13, hg13⟩ := box2_set HB612.out (.slice a12 F.1.length c12) (.bool F.2)
 obtain ⟨w13, hw13⟩ : ∃ W, W = (w12.setCell ⟨o6, 0, none⟩ (.slice a12 F.1.length c12)).setCell ⟨o6, 1, none⟩ (.bool F.2) := ⟨_, rfl⟩
 rw [← hw13] at hs13 hg13 ⊢
 clear hK K k0 k1 f0 f1 CN
 have HG13 := Kh (zG HG12.out hg13 (fun j e => by have e : o6 = j := Option.some.inj e; have := HO6W.out; omega))
 have HGA13 := Kh (zG HGA12.out hg13 (fun j e => by have e : o6 = j := Option.some.inj e; have := HO6.out; omega))
 have HM13 := Kh (HM12.out.kept hg13 (fun j e => by have e : o6 = j := Option.some.inj e; have := HO6.out; omega))
 have HI13 := Kh (HI12.out.kept hg13 (fun j e => by have e : o6 = j := Option.some.inj e; have := HO6.out; omega))
 have HT13 := Kh (HT12.out.kept hg13 (fun e => by have e := Option.some.inj e; have := HO6.out; have := HT2.out.1; omega))
 have HB613 := Kh hs13; have HB413 := Kh (zE HB412.out hg13 (fun e => by have e := Option.some.inj e; have := HO46.out; omega))
 have hoN : o6 < w12.heap.size := zR HB612.out
 have HRF13 := Kh ((HRF12.out.kept_box HB612.out hg13).mono (Nat.le_trans HZ11.out (Nat.le_trans HZN.out hg13.size)))
 have HRG13 := Kh ((HRN.out.kept_box HB612.out hg13).mono hg13.size)
 clear hs13 hg13 hw13 HRN HZN hoN
 try simp only [Act.put, sPa, sPb, sPc]
 refine oneG (i := 11) (by kernel_rfl) rfl (fun K hK => ?_)
 go_simp
 refine hK.out _ _ ⟨trivial, fun h => by simp at h⟩ ?_
 clear hK K
 try simp only [Act.put, sPa, sPb, sPc]
 refine doneG (by kernel_rfl) ?_ _
 refine NoPanic.normal ?_
 clear HADV
 go_wp2_with fail
 refine (closure_any w2.heap.size w13 _ _ t im HGA13.out.size HM13.out HI13.out HT13.out).mono ?_
 intro e w14 hb
 obtain ⟨a14, c14, rfl, hr14, hg14⟩ := hb.uni
 clear hb
 obtain ⟨M, hMM⟩ : ∃ M, M = closeF t im := ⟨_, rfl⟩
 have HMM := Kh hMM
 clear hMM
 rw [← HMM.out] at hr14
 rw [← HMM.out, ← HCE.out]
 have HG14 := Kh (zG HG13.out hg14 (by simp)); have HGA14 := Kh (zG HGA13.out hg14 (by simp)); have HM14 := Kh (HM13.out.kept hg14 (by simp)); have HI14 := Kh (HI13.out.kept hg14 (by simp)); have HT14 := Kh (HT13.out.kept hg14 (by simp))
 have HB414 := Kh (zE HB413.out hg14 (by simp)); have HB614 := Kh (zE HB613.out hg14 (by simp)); have HRF14 := Kh ((HRF13.out.kept hg14 (by simp)).mono hg14.size); have HRG14 := Kh ((HRG13.out.kept hg14 (by simp)).mono hg14.size)
 have HRM14 := Kh hr14
 clear hr14 hg14
 go_wp2_with fail
 refine (rclosure_any w2.heap.size w14 _ _ t im HGA14.out.size HM14.out HI14.out).mono ?_
 intro e w15 hb
 obtain ⟨a15, c15, rfl, hr15, hg15⟩ := hb.uni
 clear hb
 rw [← HMM.out] at hr15
 rw [← HMM.out, ← HCE.out]
 have HG15 := Kh (zG HG14.out hg15 (by simp)); have HGA15 := Kh (zG HGA14.out hg15 (by simp)); have HM15 := Kh (HM14.out.kept hg15 (by simp)); have HI15 := Kh (HI14.out.kept hg15 (by simp)); have HT15 := Kh (HT14.out.kept hg15 (by simp))
 have HB415 := Kh (zE HB414.out hg15 (by simp)); have HB615 := Kh (zE HB614.out hg15 (by simp)); have HRF15 := Kh ((HRF14.out.kept hg15 (by simp)).mono hg15.size); have HRG15 := Kh ((HRG14.out.kept hg15 (by simp)).mono hg15.size)
 have HRM15 := Kh ((HRM14.out.kept hg15 (by simp)).mono hg15.size); have HRN15 := Kh hr15
 clear hr15 hg15
 obtain ⟨x0, x1⟩ := uQ HB415.out
 obtain ⟨y0, y1⟩ := uQ HB615.out
 go_wp2_with fail
 refine (lawsame_same w15 w15.heap.size w15.heap.size _ _ F.1 F.2 (Nat.le_refl _) (Nat.le_refl _) HRF15.out HRG15.out).mono ?_
 rintro e w16 ⟨rfl, hg16⟩
 have HG16 := Kh (zG HG15.out hg16 (by simp)); have HGA16 := Kh (zG HGA15.out hg16 (by simp)); have HM16 := Kh (HM15.out.kept hg16 (by simp)); have HI16 := Kh (HI15.out.kept hg16 (by simp)); have HT16 := Kh (HT15.out.kept hg16 (by simp))
 have HRM16 := Kh ((HRM15.out.kept hg16 (by simp)).mono hg16.size); have HRN16 := Kh ((HRN15.out.kept hg16 (by simp)).mono hg16.size)
 clear hg16 x0 x1 y0 y1
 have hsm := sF w16.heap.size w16.heap.size w16 (.slice a14 M.length c14) (.slice a15 M.length c15) (M.map fun (x : Nat) => (x : Int)) (M.map fun (x : Nat) => (x : Int)) (by have := HRM16.out; rw [sV] at this; exact this) (by have := HRN16.out; rw [sV] at this; exact this)
 have HSM := Kh hsm
 clear hsm
 go_wp2_with fail
 refine HSM.out.mono ?_
 rintro e w17 ⟨rfl, md, rfl⟩
 have hg17 := zP w16 md none
 have HT17 := Kh (HT16.out.kept hg17 (by simp)); have HG17 := Kh (zG HG16.out hg17 (by simp))
 clear hg17
 go_wp2_with fail
 refine (known40_any _ HT17.out).mono ?_
 rintro e w18 ⟨rfl, hg18⟩
 have HG18 := Kh (zG HG17.out hg18 (by simp))
 clear hg18
 go_wp2
 go_ret
 exact ⟨by first | rfl | simp, HG18.out⟩
def laidTabs : List (String × DataW Unit) := [("math/bits.deBruijn32tab", Rows.laid_math_bits_deBruijn32tab), ("math/bits.deBruijn64tab", Rows.laid_math_bits_deBruijn64tab)]
theorem tabOk_of_laid {W : World} (h : laidMetH Tryd.prog laidTabs W) : TabOk W := by
 rw [MakeChecks.laidMetH_plain _ _ _ (by kernel_rfl)] at h
 obtain ⟨ps, ⟨g0, t0, cs0, f0, p0, q0, hg0, ht0, hv0, hd0, ⟨g1, t1, cs1, f1, p1, q1, hg1, ht1, hv1, hd1, _, _⟩, _⟩, _, _⟩ := h
 have e1 : Tryd.prog.globalNamed "math/bits.deBruijn64tab" = some 1 := by kernel_rfl
 obtain rfl := Option.some.inj (e1.symm.trans hg1)
 have e2 : (Tryd.prog.globals[1]?).map (·.type) = some 143 := by kernel_rfl
 obtain rfl := Option.some.inj (e2.symm.trans ht1)
 have hc := Lib.cells_of_tab (k := .u8) (zs := Lib.deBruijn64tab.map fun (x : Nat) => (x : Int)) (n := 64) (e := 5) (by kernel_rfl) (by kernel_rfl) (by kernel_rfl) (by kernel_rfl) hd1
 have hti : Lib.TabIs Tryd.prog W "math/bits.deBruijn64tab" .u8 (Lib.deBruijn64tab.map fun (x : Nat) => (x : Int)) := by
  unfold Lib.TabIs
  rw [hv1, ← hc]
 have hcell : ∀ i, i < Lib.deBruijn64tab.length → W.cell? ⟨1, i, none⟩ = some (.int .u8 (Lib.deBruijn64tab.getD i 0)) := fun i hi => by
  have := hti.cell e1 i (by rw [List.length_map]; exact hi)
  rw [this]
  simp [List.getD, List.getElem?_eq_getElem hi]
 exact ⟨World.block_lt_of_cell? W _ (hcell 0 (by decide)), hcell⟩
end Go.Proofs.YtdjhoadoiknaoaaDoor
