/- Part 40 of the proof: DerRound. -/
import Derived.Test.YtdjhoadoiknaoaaDoorZw39
set_option linter.unusedVariables false
set_option linter.unusedSimpArgs false
namespace Go.Proofs.YtdjhoadoiknaoaaDoor
open Go.RowKit
theorem Arr.but {w w' : World} {F : Nat → Prop} {k e : Nat} {xs : List Value} (h : Arr w k e xs) (hg : GrownBut w w' F) (hn : ¬ F k) : Arr w' k e xs := by
  obtain ⟨cur, rest, h1, h2⟩ := h
  exact ⟨cur, rest, hg.heap h1 hn, h2⟩
structure FamRow (w : World) (dp g go kb : Nat) (l : List Nat) : Prop where
  arr : Arr w kb 3 (nats l)
  nd : kb ≠ dp
  ng : kb ≠ g
  no : kb ≠ go
theorem FamRow.but {C dp g go kb : Nat} {w w' : World} {l : List Nat} (h : FamRow w dp g go kb l) (hg : GrownBut w w' (DerF C dp g go w)) : FamRow w' dp g go kb l :=
  ⟨h.arr.but hg (fun hf => by
    rcases hf with e | e | e | ⟨_, c, m, e⟩
    · exact h.nd e
    · exact h.ng e
    · exact h.no e
    · obtain ⟨cur, rest, h1, _⟩ := h.arr
      rw [h1] at e
      simp only [Option.some.injEq, Obj.cells.injEq] at e
      exact absurd e.2.1 (by decide)), h.nd, h.ng, h.no⟩
structure DState (F C : Nat) (w0 w : World) (p go dp g : Nat) (t : List (List Int)) (im : List Int) (ix0 : List Nat) (ss : List StepV) (ix : List Nat) : Prop where
  sets : SetsOk F C w p go t.length (entN t)
  der : DerAt C w dp p g t.length ss ix
  ok : DerS t im ss ix
  le : IxLe ix0 ix
  but : GrownBut w0 w (DerF C dp g go w0)
  tab : TabOk w
  sz : C ≤ w.heap.size
section
variable {F C p go dp g : Nat} {w0 w w' : World} {t : List (List Int)} {im : List Int} {ix0 ix : List Nat} {ss : List StepV}
theorem DState.quiet (h : DState F C w0 w p go dp g t im ix0 ss ix) (hg : w.grownBy w' none) : DState F C w0 w' p go dp g t im ix0 ss ix where
  sets := h.sets.kept hg (by simp)
  der := h.der.grown hg (by simp)
  ok := h.ok
  le := h.le
  but := h.but.step hg (by simp)
  tab := h.tab.kept hg (by simp)
  sz := Nat.le_trans h.sz hg.size
theorem DState.goes (h : DState F C w0 w p go dp g t im ix0 ss ix) (hs : SetsOk F C w' p go t.length (entN t)) (hg : w.grownBy w' (some go)) (htF : 1 < F) : DState F C w0 w' p go dp g t im ix0 ss ix where
  sets := hs
  der := h.der.grown hg (fun k e => by have e : go = k := Option.some.inj e; have := h.sets.go_lt'; omega)
  ok := h.ok
  le := h.le
  but := h.but.step hg (fun k e => .inl (.inr (.inr (.inl (Option.some.inj e).symm))))
  tab := h.tab.kept hg (fun e => by have e : go = 1 := Option.some.inj e; have := h.sets.go_lt'; omega)
  sz := Nat.le_trans h.sz hg.size
theorem DState.add {st : StepV} {x : Nat} {e : Ending} (h : DState F C w0 w p go dp g t im ix0 ss ix) (ha : DAddOk C w dp p g t.length ss ix st x e w') (hd : DerS t im (addS ss ix st x).1 (addS ss ix st x).2) (hx : x < 2 ^ t.length) (hFC : F ≤ C) (htF : 1 < F) : DState F C w0 w' p go dp g t im ix0 (addS ss ix st x).1 (addS ss ix st x).2 := by
  obtain ⟨_, h1, h2⟩ := ha
  have hb := derF_below h2 h.der.lo.1 h.der.lo.2 h.sz
  exact ⟨h.sets.below hb (Nat.le_refl _), h1, hd, h.le.trans (addS_le h.ok.i hx).1, derF_trans h.but (h2.weak fun k => derF_go), h.tab.below hb (by omega), Nat.le_trans h.sz h2.size⟩
end
def ProdIn (t : List (List Int)) (l : List Nat) (ix : List Nat) (k : Nat) : Prop := ∀ i, i < k → (∀ j, j < l.length → ix.getD (prodSet t.length (entN t) (l.getD i 0) (l.getD j 0)) 0 ≠ 0) ∧ ix.getD (omegaSet t.length (entN t) (l.getD i 0)) 0 ≠ 0
def RowIn (t : List (List Int)) (l : List Nat) (ix : List Nat) (i m : Nat) : Prop := ∀ j, j < m → ix.getD (prodSet t.length (entN t) (l.getD i 0) (l.getD j 0)) 0 ≠ 0
theorem ProdIn.le {t : List (List Int)} {l ix ix' : List Nat} {k : Nat} (h : ProdIn t l ix k) (hl : IxLe ix ix') : ProdIn t l ix' k := fun i hi => ⟨fun j hj => hl.ne ((h i hi).1 j hj), hl.ne (h i hi).2⟩
theorem RowIn.le {t : List (List Int)} {l ix ix' : List Nat} {i m : Nat} (h : RowIn t l ix i m) (hl : IxLe ix ix') : RowIn t l ix' i m := fun j hj => hl.ne (h j hj)
def DRoundOk (F C : Nat) (w : World) (p go dp g : Nat) (t : List (List Int)) (im : List Int) (ix : List Nat) (l : List Nat) (e : Ending) (w' : World) : Prop :=
  e = .returned (.tuple #[]) ∧ ∃ ss' ix', DState F C w w' p go dp g t im ix ss' ix' ∧ ProdIn t l ix' l.length
set_option maxRecDepth 100000 in
set_option maxHeartbeats 1000000 in
theorem dround_any (F C : Nat) (w : World) (p go dp g kb cap : Nat) (t : List (List Int)) (im : List Int) (ss : List StepV) (ix l : List Nat) (hst : DState F C w w p go dp g t im ix ss ix) (hgd : Good t im) (hfr : FamRow w dp g go kb l) (hl : ∀ a ∈ l, a < 2 ^ t.length ∧ ix.getD a 0 ≠ 0) (hll : l.length ≤ 4096) (hFC : F ≤ C) (htF : 1 < F) :
    Calls Tryd.prog 78 #[.pointer (some ⟨dp, 0, none⟩), .slice (some ⟨kb, 0, none⟩) l.length cap] w (DRoundOk F C w p go dp g t im ix l) := by
  have hn := hgd.le
  have HGD := Lib.hid hgd; have HL := Lib.hid hl; have HST := Lib.hid hst; have HFR := Lib.hid hfr; have HTB := Lib.hid (tb_of hgd.valid)
  obtain ⟨N, hN⟩ : ∃ N, N = 2 ^ t.length := ⟨_, rfl⟩
  have HN := Lib.hid hN
  have hN4 : N ≤ 4096 := by have := pow_le hn; omega
  clear hgd hl hst hfr hN
  go_enter Tryd.func78, Tryd.ntmps78
  go_wp2
  go_loopg [11] l.length (fun gh i wr => ∃ (k : Nat) (ss : List StepV) (ix' : List Nat), gh + k = l.length ∧ i = .int .i64 k ∧ Hid (DState F C w wr p go dp g t im ix ss ix') ∧ Hid (ProdIn t l ix' k))
  case atStart => exact ⟨0, ss, ix, rfl, rfl, HST, Lib.hid (fun i hi => absurd hi (by omega))⟩
  case round =>
    clear HST
    obtain ⟨k, ss, ix', hgh, rfl, HS, HP⟩ := hrel
    have HGH := Lib.hid hgh
    clear hgh
    by_cases hk : ¬ k < l.length
    · have hk' : ¬ (k : Int) < l.length := by omega
      have HE : Hid (k = l.length) := Lib.hid (by have := HGH.out; omega)
      go_wp2
      go_end0
      exact ⟨rfl, ss, ix', HS.out, by rw [← HE.out]; exact HP.out⟩
    replace hk : k < l.length := by omega
    have hk' : (k : Int) < l.length := by omega
    have hfr := HFR.out.but HS.out.but
    have ck := hfr.arr.nat k hk
    obtain ⟨a, ha⟩ : ∃ a, a = l.getD k 0 := ⟨_, rfl⟩
    obtain ⟨haN, ha0⟩ := HL.out a (by rw [ha]; exact getD_memN hk)
    rw [← ha] at ck
    rw [← HN.out] at haN
    have haX := HS.out.le a ha0
    have haN' : (a : Int) < N := by omega
    obtain ⟨sa, sc, hbx, how⟩ := HS.out.der.box
    rw [← HN.out] at hbx
    obtain ⟨d0, d1, d2⟩ := derBox_cells hbx
    have cx := HS.out.der.arr.nat a (by rw [HS.out.der.len, ← HN.out]; exact haN)
    obtain ⟨A, hA⟩ : ∃ A, A = ix'.getD a 0 := ⟨_, rfl⟩
    rw [← hA] at cx
    have hAS := HS.out.ok.at_set (x := a) (by rw [← HN.out]; exact haN) (by rw [haX]; exact ha0)
    have hle := HS.out.ok.i.le
    rw [← HN.out] at hle
    have hA1 : 1 ≤ A := by rw [hA, haX]; omega
    have hA2 : A ≤ 4096 := by rw [hA]; omega
    have HA := Lib.hid hA; have HAK := Lib.hid ha; have HA0 := Lib.hid ha0
    have HA1 : Hid (((A - 1 : Nat) : Int) = (A : Int) - 1) := Lib.hid (by omega)
    clear hfr ha ha0 haX hbx how hA hAS hle
    go_wp2
    clear ck cx d0 d1 d2
    obtain ⟨wk, hwk⟩ : ∃ wk : World, wk = wr := ⟨_, rfl⟩
    have HWK := Lib.hid hwk
    clear hwk
    go_loopg [25] l.length (fun gj i wr => ∃ (j : Nat) (ss : List StepV) (ix' : List Nat), gj + j = l.length ∧ i = .int .i64 j ∧ Hid (DState F C w wr p go dp g t im ix ss ix') ∧ Hid (ProdIn t l ix' k) ∧ Hid (RowIn t l ix' k j) ∧ Hid (ix'.getD a 0 = A))
    case atStart => exact ⟨0, ss, ix', rfl, rfl, HS, HP, Lib.hid (fun j hj => absurd hj (by omega)), Lib.hid HA.out.symm⟩
    case round =>
      clear HS HP HA HWK
      obtain ⟨j, ss, ix', hgj, rfl, HS, HP, HR, HA⟩ := hrel
      have HGJ := Lib.hid hgj
      clear hgj
      obtain ⟨sa, sc, hbx, how⟩ := HS.out.der.box
      rw [← HN.out] at hbx
      obtain ⟨d0, d1, d2⟩ := derBox_cells hbx
      have HBX := Lib.hid hbx
      by_cases hj : j < l.length
      · have hj' : (j : Int) < l.length := by omega
        have hfr := HFR.out.but HS.out.but
        have cj := hfr.arr.nat j hj
        obtain ⟨b, hb⟩ : ∃ b, b = l.getD j 0 := ⟨_, rfl⟩
        obtain ⟨hbN, hb0⟩ := HL.out b (by rw [hb]; exact getD_memN hj)
        rw [← hb] at cj
        rw [← HN.out] at hbN
        have hbX := HS.out.le b hb0
        have hbN' : (b : Int) < N := by omega
        have cx := HS.out.der.arr.nat b (by rw [HS.out.der.len, ← HN.out]; exact hbN)
        obtain ⟨X, hX⟩ : ∃ X, X = ix'.getD b 0 := ⟨_, rfl⟩
        rw [← hX] at cx
        have hXS := HS.out.ok.at_set (x := b) (by rw [← HN.out]; exact hbN) (by rw [hbX]; exact hb0)
        have hle := HS.out.ok.i.le
        rw [← HN.out] at hle
        have hX1 : 1 ≤ X := by rw [hX, hbX]; omega
        have hX2 : X ≤ 4096 := by rw [hX]; omega
        have HX := Lib.hid hX; have HBJ := Lib.hid hb; have HB0 := Lib.hid hb0; have HLE := Lib.hid hle
        obtain ⟨X1, hX1e⟩ : ∃ X1, X1 = X - 1 := ⟨_, rfl⟩
        have hwX : IntKind.i64.wrap ((X : Int) - 1) = (X1 : Int) := by rw [IntWalk.i64_in _ (by omega)]; omega
        have HX1 := Lib.hid hX1e
        clear hX1e
        obtain ⟨P, hP⟩ : ∃ P, P = prodSet t.length (entN t) a b := ⟨_, rfl⟩
        have HP_ := Lib.hid hP
        have hPN : P < N := by rw [hP, HN.out]; exact prodSet_lt HTB.out.lt _ _
        have HCP : Hid (∀ W : World, wr.grownBy W none → Calls Tryd.prog 53 #[.pointer (some ⟨p, 0, none⟩), .int .i64 (a : Int), .int .i64 (b : Int)] W fun e w' => e = .returned (.int .i64 (P : Int)) ∧ wr.grownBy w' none) := Lib.hid (fun W hW => by
          have h1 := HS.out.quiet hW
          refine (product_any F C W p go t.length (entN t) a b h1.sets HTB.out.lt hn (by rw [← HN.out]; exact haN) (by rw [← HN.out]; exact hbN) h1.tab).mono ?_
          rintro e w' ⟨rfl, m, rfl⟩
          exact ⟨by rw [hP], grown_far hW (grownBy_drewN W m none) (by simp)⟩)
        have HCA : Hid (∀ W : World, wr.grownBy W none → Calls Tryd.prog 100 #[.pointer (some ⟨dp, 0, none⟩), .agg #[.int .i64 2, .int .i64 ((A : Int) - 1), .int .i64 (X1 : Int), .string ⟨#[]⟩, .int .i64 (P : Int)]] W fun e w' => e = .returned (.tuple #[]) ∧ ∃ ss2 ix2, DState F C w w' p go dp g t im ix ss2 ix2 ∧ IxLe ix' ix2 ∧ ix2.getD P 0 ≠ 0) := Lib.hid (fun W hW => by
          have h1 := HS.out.quiet hW
          refine (dadd_any C W dp p g t.length ss ix' ⟨2, ((A : Int) - 1), (X1 : Int), ⟨#[]⟩, (P : Int)⟩ P h1.der (by omega) (by rw [← HN.out]; exact hPN) rfl hn h1.sz).mono ?_
          intro e w' h2
          have h3 := h1.ok.product HGD.out (a := a) (b := b) (by rw [← HN.out]; exact haN) (by rw [← HN.out]; exact hbN) (by rw [HA.out]; omega) (by rw [← HX.out]; omega)
          rw [← HP_.out, HA.out, ← HX.out, HA1.out, ← HX1.out] at h3
          have h4 := addS_le (st := ⟨2, ((A : Int) - 1), (X1 : Int), ⟨#[]⟩, (P : Int)⟩) h1.ok.i (x := P) (by rw [← HN.out]; exact hPN)
          exact ⟨h2.1, _, _, h1.add h2 h3 (by rw [← HN.out]; exact hPN) hFC htF, h4.1, h4.2⟩)
        have GA : wr.grownBy wr.drew none := grownBy_drew _ _
        have HCB : Hid (∀ W ss2 ix2, DState F C w W p go dp g t im ix ss2 ix2 → IxLe ix' ix2 → W.cell? ⟨dp, 0, none⟩ = some (.pointer (some ⟨p, 0, none⟩)) ∧ W.cell? ⟨dp, 2, none⟩ = some (.slice (some ⟨g, 0, none⟩) N N) ∧ W.cell? ⟨g, b, none⟩ = some (.int .i64 (X : Int))) := Lib.hid (fun W ss2 ix2 h1 h2 => by
          obtain ⟨sa2, sc2, hb2, _⟩ := h1.der.box
          rw [← HN.out] at hb2
          obtain ⟨e0, _, e2⟩ := derBox_cells hb2
          have e3 := h1.der.arr.nat b (by rw [h1.der.len, ← HN.out]; exact hbN)
          rw [h2 b (by rw [← HX.out]; omega), ← HX.out] at e3
          exact ⟨e0, e2, e3⟩)
        clear hfr hb hb0 hbX hX hXS hle hP hbx how
        go_wp2
        go_region_held3 (fun W => W.cell? ⟨dp, 0, none⟩ = some (.pointer (some ⟨p, 0, none⟩)) ∧ W.cell? ⟨dp, 2, none⟩ = some (.slice (some ⟨g, 0, none⟩) N N) ∧ W.cell? ⟨g, b, none⟩ = some (.int .i64 (X : Int)))
          (first | go_keep | exact HCB.out _ _ _ (HS.out.quiet hG7) (IxLe.refl _) | exact HCB.out _ _ _ hD8 hL8 | fail)
          (first | (go_at_call 53; (with_reducible refine (HCP.out _ GA).mono ?_); rintro e w7 ⟨rfl, hG7⟩) | (go_at_call 100; (with_reducible refine (HCA.out _ hG7).mono ?_); rintro e w8 ⟨rfl, ss2, ix2, hD8, hL8, hP8⟩) | fail)
        have HD8 := Lib.hid hD8
        have HP8 : Hid (ProdIn t l ix2 k) := Lib.hid (HP.out.le hL8)
        have HR8 : Hid (RowIn t l ix2 k (j + 1)) := Lib.hid (fun i hi => by
          rcases Nat.lt_succ_iff_lt_or_eq.1 hi with hi | rfl
          · exact hL8.ne (HR.out i hi)
          · rw [← HAK.out, ← HBJ.out, ← HP_.out]; exact hP8)
        have HA8 : Hid (ix2.getD a 0 = A) := Lib.hid (by rw [hL8 a (by rw [HA.out]; omega)]; exact HA.out)
        clear hD8 hL8 hP8 hG7 GA cj cx d0 d1 d2 hwX
        go_wp2
        go_roundg (l.length - (j + 1))
        case measure => have := HGJ.out; omega
        case rel => exact ⟨j + 1, ss2, ix2, by have := HGJ.out; omega, by go_num, HD8, HP8, HR8, HA8⟩
      · have hj' : ¬ (j : Int) < l.length := by omega
        have HE : Hid (j = l.length) := Lib.hid (by have := HGJ.out; omega)
        obtain ⟨P, hP⟩ : ∃ P, P = omegaSet t.length (entN t) a := ⟨_, rfl⟩
        have HP_ := Lib.hid hP
        have hPN : P < N := by rw [hP, HN.out]; exact omegaSet_lt HTB.out (by rw [← HN.out]; exact haN)
        have hle := HS.out.ok.i.le
        rw [← HN.out] at hle
        clear hbx how hP
        go_wp2_with fail
        refine (omega_any F C wr p go t.length (entN t) a HS.out.sets HTB.out hn (by rw [← HN.out]; exact haN) HS.out.tab).mono ?_
        rintro e w4 ⟨rfl, hs4, hg4⟩
        rw [← HP_.out]
        have HD4 := Lib.hid (HS.out.goes hs4 hg4 htF)
        clear hs4 hg4 d0 d1 d2
        go_wp2_with fail
        refine (dadd_any C w4 dp p g t.length ss ix' ⟨3, ((A : Int) - 1), 0, ⟨#[]⟩, (P : Int)⟩ P HD4.out.der (by omega) (by rw [← HN.out]; exact hPN) rfl hn HD4.out.sz).mono ?_
        intro e w5 h2
        obtain rfl := h2.1
        have h3 := HD4.out.ok.omega HGD.out (a := a) (by rw [← HN.out]; exact haN) (by rw [HA.out]; omega)
        rw [← HP_.out, HA.out, HA1.out] at h3
        have h4 := addS_le (st := ⟨3, ((A : Int) - 1), 0, ⟨#[]⟩, (P : Int)⟩) HD4.out.ok.i (x := P) (by rw [← HN.out]; exact hPN)
        have HD5 := Lib.hid (HD4.out.add h2 h3 (by rw [← HN.out]; exact hPN) hFC htF)
        have HP5 : Hid (ProdIn t l (addS ss ix' ⟨3, ((A : Int) - 1), 0, ⟨#[]⟩, (P : Int)⟩ P).2 (k + 1)) := Lib.hid (fun i hi => by
          rcases Nat.lt_succ_iff_lt_or_eq.1 hi with hi | rfl
          · exact (HP.out.le h4.1) i hi
          · refine ⟨fun j hj => h4.1.ne (HR.out j (by rw [HE.out]; exact hj)), ?_⟩
            rw [← HAK.out, ← HP_.out]; exact h4.2)
        clear h2 h3 h4
        go_wp2
        go_roundg (l.length - (k + 1))
        case measure => have := HGH.out; omega
        case rel => exact ⟨k + 1, _, _, by have := HGH.out; omega, by go_num, HD5, HP5⟩
end Go.Proofs.YtdjhoadoiknaoaaDoor
