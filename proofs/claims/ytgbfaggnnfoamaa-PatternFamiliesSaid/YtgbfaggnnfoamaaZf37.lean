/- Part 37 of the proof: FamLaw, SomeLen. -/
import Derived.Test.YtgbfaggnnfoamaaZf36
import Derived.Shelf.Vars
set_option linter.unusedVariables false
set_option linter.unusedSimpArgs false
namespace Go.Proofs.Ytgbfaggnnfoamaa
open Go.RowKit
theorem wX {B : Nat} {w : World} {svs : List Value} {ps : List (List (List Int))} (h : RowsT B 9 strs w svs ps) : ∀ p ∈ ps, p.length ≤ 9223372036854775807 := by
 intro p hp
 obtain ⟨i, hi, rfl⟩ := List.mem_iff_getElem.1 hp
 have hl := h.1
 have h1 := (h.2 i (by omega) hi).row.len_le
 rw [zK] at h1
 unfold maxLen at h1; omega
set_option maxRecDepth 100000 in
set_option maxHeartbeats 2000000 in
theorem families_walk (w : World) (x0 x1 x2 x3 : Int) (bo : Bool) (hL : SomeLen w) :
  Calls Try.prog 3 #[.int .i64 x0, .int .i64 x1, .int .i64 x2, .int .i64 x3, .bool bo] w fun e w' => e = .returned (.bool true) ∧ w.grownBy w' none := by
 have HL := Kh hL
 clear hL
 cases bo with
 | true =>
  go_enter Try.func3, Try.ntmps3
  obtain ⟨ER, hER⟩ : ∃ ER, ER = famE x0 x1 x2 x3 := ⟨_, rfl⟩
  obtain ⟨PS, hPS⟩ : ∃ PS, PS = famL x0 x1 x2 x3 := ⟨_, rfl⟩
  have HF : Hid (∀ W, Calls Try.prog 11 #[.int .i64 x0, .int .i64 x1, .int .i64 x2, .int .i64 x3] W (zN W ER PS)) := Kh (fun W => by rw [hER, hPS]; exact wB x0 x1 x2 x3 W)
  have HG : Hid (∀ W, Calls Try.prog 12 #[.int .i64 x0, .int .i64 x1, .int .i64 x2, .int .i64 x3] W (zN W ER PS)) := Kh (fun W => by rw [hER, hPS]; exact xW x0 x1 x2 x3 W)
  clear hER hPS
  go_wp2_with fail
  refine (HF.out _).mono ?_
  rintro e w1 ⟨sa, sc, s1, rfl, hT1, hR1, hg1⟩
  have K1 := Kh hT1; have K2 := Kh hR1
  clear hT1 hR1
  go_wp2_with fail
  refine (HG.out _).mono ?_
  rintro e w2 ⟨sb, sd, s2, rfl, hT2, hR2, hg2⟩
  have HL2 := Kh ((HL.out.kept hg1 (by simp)).kept hg2 (by simp))
  have hln : PS.length ≤ 9223372036854775807 := by
   have h1 := hT2.row.len_le
   have h2 := hR2.1
   unfold maxLen at h1; omega
  have HSM := Kh (xS w1.heap.size w2.heap.size (.slice sa PS.length sc) (.slice sb PS.length sd) s1 s2 PS w2 ((K1.out.kept hg2 (by simp)).row) hT2.row (K2.out.kept hg2 (by simp)) hR2 hln (wX hR2))
  have HG2 := Kh (zE hg1 hg2)
  clear hT2 hR2 hg1 hg2 hln K1 K2
  go_wp2_with fail
  refine HSM.out.mono ?_
  rintro e w3 ⟨rfl, m, rfl⟩
  have HL3 := Kh (HL2.out.kept (zD w2 m none) (by simp))
  go_wp2_with fail
  refine (wT _ HL3.out).mono ?_
  rintro e w4 ⟨rfl, hg4⟩
  go_wp2
  go_ret
  exact ⟨rfl, zA (zA HG2.out (zD w2 m none) (by simp)) hg4 (by simp)⟩
 | false =>
  have HM0 := Kh (vL x0 9 w (by omega)); have HM1 := Kh (vL x1 8 w (by omega)); have HM2 := Kh (vL x2 10 w (by omega)); have HM3 := Kh (vL x3 6 w (by omega))
  obtain ⟨y0, hy0⟩ : ∃ y, y = modI x0 9 := ⟨_, rfl⟩
  obtain ⟨y1, hy1⟩ : ∃ y, y = modI x1 8 := ⟨_, rfl⟩
  obtain ⟨y2, hy2⟩ : ∃ y, y = modI x2 10 := ⟨_, rfl⟩
  obtain ⟨y3, hy3⟩ : ∃ y, y = modI x3 6 := ⟨_, rfl⟩
  rw [← hy0] at HM0; rw [← hy1] at HM1; rw [← hy2] at HM2; rw [← hy3] at HM3
  clear hy0 hy1 hy2 hy3
  by_cases h7 : y0 = 7
  ·subst h7
   go_enter Try.func3, Try.ntmps3
   go_wp2_with fail
   refine HM0.out.mono ?_
   rintro e w ⟨rfl, rfl⟩
   go_wp2_with fail
   refine HM1.out.mono ?_
   rintro e w ⟨rfl, rfl⟩
   go_wp2_with fail
   refine HM2.out.mono ?_
   rintro e w ⟨rfl, rfl⟩
   go_wp2_with fail
   refine HM3.out.mono ?_
   rintro e w ⟨rfl, rfl⟩
   obtain ⟨ER, hER⟩ : ∃ ER, ER = famE 7 y1 y2 y3 := ⟨_, rfl⟩
   obtain ⟨PS, hPS⟩ : ∃ PS, PS = famL 7 y1 y2 y3 := ⟨_, rfl⟩
   have HF : Hid (∀ W, Calls Try.prog 11 #[.int .i64 7, .int .i64 y1, .int .i64 y2, .int .i64 y3] W (zN W ER PS)) := Kh (fun W => by rw [hER, hPS]; exact wB 7 y1 y2 y3 W)
   have HG : Hid (∀ W, Calls Try.prog 12 #[.int .i64 7, .int .i64 y1, .int .i64 y2, .int .i64 y3] W (zN W ER PS)) := Kh (fun W => by rw [hER, hPS]; exact xW 7 y1 y2 y3 W)
   clear hER hPS
   go_wp2_with fail
   refine (HF.out _).mono ?_
   rintro e w1 ⟨sa, sc, s1, rfl, hT1, hR1, hg1⟩
   have K1 := Kh hT1; have K2 := Kh hR1
   clear hT1 hR1
   go_wp2_with fail
   refine (HG.out _).mono ?_
   rintro e w2 ⟨sb, sd, s2, rfl, hT2, hR2, hg2⟩
   have HL2 := Kh ((HL.out.kept hg1 (by simp)).kept hg2 (by simp))
   have hln : PS.length ≤ 9223372036854775807 := by
    have h1 := hT2.row.len_le
    have h2 := hR2.1
    unfold maxLen at h1; omega
   have HSM := Kh (xS w1.heap.size w2.heap.size (.slice sa PS.length sc) (.slice sb PS.length sd) s1 s2 PS w2 ((K1.out.kept hg2 (by simp)).row) hT2.row (K2.out.kept hg2 (by simp)) hR2 hln (wX hR2))
   have HG2 := Kh (zE hg1 hg2)
   clear hT2 hR2 hg1 hg2 hln K1 K2
   go_wp2_with fail
   refine HSM.out.mono ?_
   rintro e w3 ⟨rfl, m, rfl⟩
   have HL3 := Kh (HL2.out.kept (zD w2 m none) (by simp))
   go_wp2_with fail
   refine (wT _ HL3.out).mono ?_
   rintro e w4 ⟨rfl, hg4⟩
   go_wp2
   go_ret
   exact ⟨rfl, zA (zA HG2.out (zD w2 m none) (by simp)) hg4 (by simp)⟩
  ·have q7 : (y0 != 7) = true := by rw [bne_iff_ne]; exact h7
   clear h7
   by_cases h4 : y3 < 4
   ·go_enter Try.func3, Try.ntmps3
    go_wp2_with fail
    refine HM0.out.mono ?_
    rintro e w ⟨rfl, rfl⟩
    go_wp2_with fail
    refine HM1.out.mono ?_
    rintro e w ⟨rfl, rfl⟩
    go_wp2_with fail
    refine HM2.out.mono ?_
    rintro e w ⟨rfl, rfl⟩
    go_wp2_with fail
    refine HM3.out.mono ?_
    rintro e w ⟨rfl, rfl⟩
    obtain ⟨ER, hER⟩ : ∃ ER, ER = famE y0 y1 y2 0 := ⟨_, rfl⟩
    obtain ⟨PS, hPS⟩ : ∃ PS, PS = famL y0 y1 y2 0 := ⟨_, rfl⟩
    have HF : Hid (∀ W, Calls Try.prog 11 #[.int .i64 y0, .int .i64 y1, .int .i64 y2, .int .i64 0] W (zN W ER PS)) := Kh (fun W => by rw [hER, hPS]; exact wB y0 y1 y2 0 W)
    have HG : Hid (∀ W, Calls Try.prog 12 #[.int .i64 y0, .int .i64 y1, .int .i64 y2, .int .i64 0] W (zN W ER PS)) := Kh (fun W => by rw [hER, hPS]; exact xW y0 y1 y2 0 W)
    clear hER hPS
    go_wp2_with fail
    refine (HF.out _).mono ?_
    rintro e w1 ⟨sa, sc, s1, rfl, hT1, hR1, hg1⟩
    have K1 := Kh hT1; have K2 := Kh hR1
    clear hT1 hR1
    go_wp2_with fail
    refine (HG.out _).mono ?_
    rintro e w2 ⟨sb, sd, s2, rfl, hT2, hR2, hg2⟩
    have HL2 := Kh ((HL.out.kept hg1 (by simp)).kept hg2 (by simp))
    have hln : PS.length ≤ 9223372036854775807 := by
     have h1 := hT2.row.len_le
     have h2 := hR2.1
     unfold maxLen at h1; omega
    have HSM := Kh (xS w1.heap.size w2.heap.size (.slice sa PS.length sc) (.slice sb PS.length sd) s1 s2 PS w2 ((K1.out.kept hg2 (by simp)).row) hT2.row (K2.out.kept hg2 (by simp)) hR2 hln (wX hR2))
    have HG2 := Kh (zE hg1 hg2)
    clear hT2 hR2 hg1 hg2 hln K1 K2
    go_wp2_with fail
    refine HSM.out.mono ?_
    rintro e w3 ⟨rfl, m, rfl⟩
    have HL3 := Kh (HL2.out.kept (zD w2 m none) (by simp))
    go_wp2_with fail
    refine (wT _ HL3.out).mono ?_
    rintro e w4 ⟨rfl, hg4⟩
    go_wp2
    go_ret
    exact ⟨rfl, zA (zA HG2.out (zD w2 m none) (by simp)) hg4 (by simp)⟩
   ·go_enter Try.func3, Try.ntmps3
    go_wp2_with fail
    refine HM0.out.mono ?_
    rintro e w ⟨rfl, rfl⟩
    go_wp2_with fail
    refine HM1.out.mono ?_
    rintro e w ⟨rfl, rfl⟩
    go_wp2_with fail
    refine HM2.out.mono ?_
    rintro e w ⟨rfl, rfl⟩
    go_wp2_with fail
    refine HM3.out.mono ?_
    rintro e w ⟨rfl, rfl⟩
    obtain ⟨ER, hER⟩ : ∃ ER, ER = famE y0 y1 y2 y3 := ⟨_, rfl⟩
    obtain ⟨PS, hPS⟩ : ∃ PS, PS = famL y0 y1 y2 y3 := ⟨_, rfl⟩
    have HF : Hid (∀ W, Calls Try.prog 11 #[.int .i64 y0, .int .i64 y1, .int .i64 y2, .int .i64 y3] W (zN W ER PS)) := Kh (fun W => by rw [hER, hPS]; exact wB y0 y1 y2 y3 W)
    have HG : Hid (∀ W, Calls Try.prog 12 #[.int .i64 y0, .int .i64 y1, .int .i64 y2, .int .i64 y3] W (zN W ER PS)) := Kh (fun W => by rw [hER, hPS]; exact xW y0 y1 y2 y3 W)
    clear hER hPS
    go_wp2_with fail
    refine (HF.out _).mono ?_
    rintro e w1 ⟨sa, sc, s1, rfl, hT1, hR1, hg1⟩
    have K1 := Kh hT1; have K2 := Kh hR1
    clear hT1 hR1
    go_wp2_with fail
    refine (HG.out _).mono ?_
    rintro e w2 ⟨sb, sd, s2, rfl, hT2, hR2, hg2⟩
    have HL2 := Kh ((HL.out.kept hg1 (by simp)).kept hg2 (by simp))
    have hln : PS.length ≤ 9223372036854775807 := by
     have h1 := hT2.row.len_le
     have h2 := hR2.1
     unfold maxLen at h1; omega
    have HSM := Kh (xS w1.heap.size w2.heap.size (.slice sa PS.length sc) (.slice sb PS.length sd) s1 s2 PS w2 ((K1.out.kept hg2 (by simp)).row) hT2.row (K2.out.kept hg2 (by simp)) hR2 hln (wX hR2))
    have HG2 := Kh (zE hg1 hg2)
    clear hT2 hR2 hg1 hg2 hln K1 K2
    go_wp2_with fail
    refine HSM.out.mono ?_
    rintro e w3 ⟨rfl, m, rfl⟩
    have HL3 := Kh (HL2.out.kept (zD w2 m none) (by simp))
    go_wp2_with fail
    refine (wT _ HL3.out).mono ?_
    rintro e w4 ⟨rfl, hg4⟩
    go_wp2
    go_ret
    exact ⟨rfl, zA (zA HG2.out (zD w2 m none) (by simp)) hg4 (by simp)⟩
theorem someLen_of_shaped {w : World} (h : w.ShapedOpen Try.prog) : SomeLen w := by
 obtain ⟨m, hm⟩ := Go.Proofs.cell_of_shapedOpen_int (P := Try.prog) (w := w) (g := 0) (t := 3) (zero := #[.int .i64 0]) (k := .i64) h (of_decide_eq_true (by kernel_rfl)) (by kernel_rfl) rfl (by kernel_rfl) (by kernel_rfl) Try.underlying3
 exact ⟨World.block_lt_of_cell? w _ hm, m, hm⟩
end Go.Proofs.Ytgbfaggnnfoamaa
