/- Part 10 of the proof: Shape. -/
import Derived.Test.YtdjhoadoiknaoaaDoorZw9
set_option linter.unusedVariables false
set_option linter.unusedSimpArgs false
namespace Go.Proofs.YtdjhoadoiknaoaaDoor
open Go.RowKit
theorem shapeE_big {t : List (List Int)} (h : 400 < t.length) : shapeE t = 3 := by rw [shapeE, if_pos h]
theorem shapeE_bad {t : List (List Int)} (h : ¬ 400 < t.length) {x : Nat} (hx : x < t.length) (hb : rowOk t.length (t.getD x []) = false) : shapeE t = 4 := by
  rw [shapeE, if_neg h, if_neg (by omega), if_neg]
  intro ha
  have := List.all_eq_true.1 ha t[x] (List.getElem_mem hx)
  rw [List.getD, List.getElem?_eq_getElem hx] at hb
  rw [Option.getD_some, this] at hb; cases hb
theorem shapeE_ok {t : List (List Int)} (h : ¬ 400 < t.length) (h0 : 0 < t.length) (ha : ∀ x, x < t.length → rowOk t.length (t.getD x []) = true) : shapeE t = 0 := by
  rw [shapeE, if_neg h, if_neg (by omega), if_pos]
  rw [List.all_eq_true]
  intro r hr
  obtain ⟨x, hx, rfl⟩ := List.getElem_of_mem hr
  have := ha x hx
  rwa [List.getD, List.getElem?_eq_getElem hx] at this
theorem rowOk_len {n : Nat} {r : List Int} (h : r.length ≠ n) : rowOk n r = false := by simp [rowOk, h]
theorem rowOk_bad {n : Nat} {r : List Int} {y : Nat} (hy : y < r.length) (h : r.getD y 0 < 0 ∨ n ≤ r.getD y 0) : rowOk n r = false := by
  rw [← Bool.not_eq_true]
  intro hr
  have := (rowOk_iff.1 hr).2 y hy
  omega
def RowsOk (t : List (List Int)) (k : Nat) : Prop := ∀ x, x < k → rowOk t.length (t.getD x []) = true
def EntsOk (n : Nat) (r : List Int) (j : Nat) : Prop := ∀ y, y < j → 0 ≤ r.getD y 0 ∧ r.getD y 0 < n
set_option maxHeartbeats 400000 in
theorem shape14_any (B : Nat) (w : World) (v : Value) (t : List (List Int)) (h : Mat B w v t) :
    Calls Tryd.prog 118 #[v] w fun e w' => e = .returned (.int .i64 (shapeE t)) ∧ w = w' := by
  by_cases h0 : 0 < t.length
  · obtain ⟨b, off, cap, A, C, rfl, hc1, hc2, hm⟩ := h.some_ h0
    have hmx : cap ≤ 9223372036854775807 := by unfold maxLen at hc2; omega
    have HM := Lib.hid hm; clear hm
    by_cases h4 : 400 < t.length
    · go_enter Tryd.func118, Tryd.ntmps118
      go_wp2
      go_ret
      exact ⟨ret_int (shapeE_big h4).symm, rfl⟩
    · have hne : ((t.length : Int) == 0) = false := by rw [beq_eq_false_iff_ne]; omega
      go_enter Tryd.func118, Tryd.ntmps118
      go_wp2
      go_loopg [15] t.length (fun g i wr => ∃ k : Nat, g + k = t.length ∧ i = .int .i64 k ∧ RowsOk t k ∧ w = wr)
      case atStart => exact ⟨0, rfl, rfl, fun x hx => absurd hx (by omega), rfl⟩
      case round =>
        obtain ⟨k, hg, rfl, hok, rfl⟩ := hrel
        have OK := Lib.hid hok; clear hok
        by_cases hk : k < t.length
        · have hcx := HM.out.hd k hk
          have hrow := HM.out.row k hk
          have hrl := hrow.len_le
          rw [ints_length] at hrl
          unfold maxLen at hrl
          obtain ⟨r, hr⟩ : ∃ r, r = t.getD k [] := ⟨_, rfl⟩
          rw [← hr] at hcx hrow hrl
          have HG := Lib.hid hg; have HR := Lib.hid hr; clear hg hr
          by_cases hl : r.length = t.length
          · have HLL := Lib.hid hl
            have hl' : ((r.length : Int) != t.length) = false := by rw [hl]; simp
            obtain ⟨rb, ro, rc, e, hb, h1, h2, hra⟩ := hrow.some_ (by rw [ints_length]; omega)
            simp only [Value.slice.injEq] at e
            obtain ⟨eA, -, rfl⟩ := e
            rw [eA] at hcx
            have HA := Lib.hid eA; have RA := Lib.hid hra
            rw [hl] at hcx
            rw [ints_length, hl] at h1
            clear eA hra hl
            go_wp2
            go_loopg [26] t.length (fun g j wr' => ∃ y : Nat, g + y = t.length ∧ j = .int .i64 y ∧ EntsOk t.length r y ∧ w = wr')
            case atStart => exact ⟨0, rfl, rfl, fun x hx => absurd hx (by omega), rfl⟩
            case round =>
              obtain ⟨y, hg, rfl, hok, rfl⟩ := hrel
              have OKY := Lib.hid hok; clear hok
              by_cases hy : y < t.length
              · have hcy := RA.out.int y (by rw [HLL.out]; exact hy)
                obtain ⟨z, hz⟩ : ∃ z, z = r.getD y 0 := ⟨_, rfl⟩
                rw [← hz] at hcy
                have HZ := Lib.hid hz; have HG2 := Lib.hid hg; clear hz hg
                by_cases hb1 : z < 0
                · go_wp2
                  go_ret
                  exact ⟨ret_int (shapeE_bad h4 hk (rowOk_bad (y := y) (by rw [← HR.out, HLL.out]; exact hy) (by rw [← HR.out, ← HZ.out]; exact .inl hb1))).symm, rfl⟩
                · by_cases hb2 : (t.length : Int) ≤ z
                  · go_wp2
                    go_ret
                    exact ⟨ret_int (shapeE_bad h4 hk (rowOk_bad (y := y) (by rw [← HR.out, HLL.out]; exact hy) (by rw [← HR.out, ← HZ.out]; exact .inr hb2))).symm, rfl⟩
                  · go_wp2
                    go_roundg (t.length - (y + 1))
                    case measure => have := HG2.out; omega
                    case rel =>
                      refine ⟨y + 1, by omega, by go_num, fun x hx => ?_, rfl⟩
                      rcases Nat.lt_succ_iff_lt_or_eq.1 hx with hx | rfl
                      · exact OKY.out x hx
                      · rw [← HZ.out]; omega
              · go_wp2
                go_roundg (t.length - (k + 1))
                case measure => have := HG.out; omega
                case rel =>
                  refine ⟨k + 1, by omega, by go_num, fun x hx => ?_, rfl⟩
                  rcases Nat.lt_succ_iff_lt_or_eq.1 hx with hx | rfl
                  · exact OK.out x hx
                  · rw [← HR.out, rowOk_iff]
                    exact ⟨HLL.out, fun z hz => OKY.out z (by rw [HLL.out] at hz; omega)⟩
          · have hl' : ((r.length : Int) != t.length) = true := by rw [bne_iff_ne]; omega
            have HLL := Lib.hid hl; clear hl
            go_wp2
            go_ret
            exact ⟨ret_int (shapeE_bad h4 hk (by rw [← HR.out]; exact rowOk_len HLL.out)).symm, rfl⟩
        · go_wp2
          go_ret
          exact ⟨ret_int (shapeE_ok h4 h0 (fun x hx => OK.out x (by omega))).symm, rfl⟩
  · obtain ⟨a, c, e⟩ := h.shape
    have ht : t = [] := List.eq_nil_of_length_eq_zero (by omega)
    subst ht
    subst e
    clear h0
    go_enter Tryd.func118, Tryd.ntmps118
    go_wp2
    go_ret
    exact ⟨rfl, rfl⟩
set_option maxHeartbeats 400000 in
theorem shape_any (B : Nat) (w : World) (v : Value) (t : List (List Int)) (h : Mat B w v t) :
    Calls Tryd.prog 92 #[v] w fun e w' => e = .returned (.int .i64 (shapeE t)) ∧ w = w' := by
  by_cases h0 : 0 < t.length
  · obtain ⟨b, off, cap, A, C, rfl, hc1, hc2, hm⟩ := h.some_ h0
    have hmx : cap ≤ 9223372036854775807 := by unfold maxLen at hc2; omega
    have HM := Lib.hid hm; clear hm
    by_cases h4 : 400 < t.length
    · go_enter Tryd.func92, Tryd.ntmps92
      go_wp2
      go_ret
      exact ⟨ret_int (shapeE_big h4).symm, rfl⟩
    · have hne : ((t.length : Int) == 0) = false := by rw [beq_eq_false_iff_ne]; omega
      go_enter Tryd.func92, Tryd.ntmps92
      go_wp2
      go_loopg [15] t.length (fun g i wr => ∃ k : Nat, g + k = t.length ∧ i = .int .i64 k ∧ RowsOk t k ∧ w = wr)
      case atStart => exact ⟨0, rfl, rfl, fun x hx => absurd hx (by omega), rfl⟩
      case round =>
        obtain ⟨k, hg, rfl, hok, rfl⟩ := hrel
        have OK := Lib.hid hok; clear hok
        by_cases hk : k < t.length
        · have hcx := HM.out.hd k hk
          have hrow := HM.out.row k hk
          have hrl := hrow.len_le
          rw [ints_length] at hrl
          unfold maxLen at hrl
          obtain ⟨r, hr⟩ : ∃ r, r = t.getD k [] := ⟨_, rfl⟩
          rw [← hr] at hcx hrow hrl
          have HG := Lib.hid hg; have HR := Lib.hid hr; clear hg hr
          by_cases hl : r.length = t.length
          · have HLL := Lib.hid hl
            have hl' : ((r.length : Int) != t.length) = false := by rw [hl]; simp
            obtain ⟨rb, ro, rc, e, hb, h1, h2, hra⟩ := hrow.some_ (by rw [ints_length]; omega)
            simp only [Value.slice.injEq] at e
            obtain ⟨eA, -, rfl⟩ := e
            rw [eA] at hcx
            have HA := Lib.hid eA; have RA := Lib.hid hra
            rw [hl] at hcx
            rw [ints_length, hl] at h1
            clear eA hra hl
            go_wp2
            go_loopg [26] t.length (fun g j wr' => ∃ y : Nat, g + y = t.length ∧ j = .int .i64 y ∧ EntsOk t.length r y ∧ w = wr')
            case atStart => exact ⟨0, rfl, rfl, fun x hx => absurd hx (by omega), rfl⟩
            case round =>
              obtain ⟨y, hg, rfl, hok, rfl⟩ := hrel
              have OKY := Lib.hid hok; clear hok
              by_cases hy : y < t.length
              · have hcy := RA.out.int y (by rw [HLL.out]; exact hy)
                obtain ⟨z, hz⟩ : ∃ z, z = r.getD y 0 := ⟨_, rfl⟩
                rw [← hz] at hcy
                have HZ := Lib.hid hz; have HG2 := Lib.hid hg; clear hz hg
                by_cases hb1 : z < 0
                · go_wp2
                  go_ret
                  exact ⟨ret_int (shapeE_bad h4 hk (rowOk_bad (y := y) (by rw [← HR.out, HLL.out]; exact hy) (by rw [← HR.out, ← HZ.out]; exact .inl hb1))).symm, rfl⟩
                · by_cases hb2 : (t.length : Int) ≤ z
                  · go_wp2
                    go_ret
                    exact ⟨ret_int (shapeE_bad h4 hk (rowOk_bad (y := y) (by rw [← HR.out, HLL.out]; exact hy) (by rw [← HR.out, ← HZ.out]; exact .inr hb2))).symm, rfl⟩
                  · go_wp2
                    go_roundg (t.length - (y + 1))
                    case measure => have := HG2.out; omega
                    case rel =>
                      refine ⟨y + 1, by omega, by go_num, fun x hx => ?_, rfl⟩
                      rcases Nat.lt_succ_iff_lt_or_eq.1 hx with hx | rfl
                      · exact OKY.out x hx
                      · rw [← HZ.out]; omega
              · go_wp2
                go_roundg (t.length - (k + 1))
                case measure => have := HG.out; omega
                case rel =>
                  refine ⟨k + 1, by omega, by go_num, fun x hx => ?_, rfl⟩
                  rcases Nat.lt_succ_iff_lt_or_eq.1 hx with hx | rfl
                  · exact OK.out x hx
                  · rw [← HR.out, rowOk_iff]
                    exact ⟨HLL.out, fun z hz => OKY.out z (by rw [HLL.out] at hz; omega)⟩
          · have hl' : ((r.length : Int) != t.length) = true := by rw [bne_iff_ne]; omega
            have HLL := Lib.hid hl; clear hl
            go_wp2
            go_ret
            exact ⟨ret_int (shapeE_bad h4 hk (by rw [← HR.out]; exact rowOk_len HLL.out)).symm, rfl⟩
        · go_wp2
          go_ret
          exact ⟨ret_int (shapeE_ok h4 h0 (fun x hx => OK.out x (by omega))).symm, rfl⟩
  · obtain ⟨a, c, e⟩ := h.shape
    have ht : t = [] := List.eq_nil_of_length_eq_zero (by omega)
    subst ht
    subst e
    clear h0
    go_enter Tryd.func92, Tryd.ntmps92
    go_wp2
    go_ret
    exact ⟨rfl, rfl⟩
end Go.Proofs.YtdjhoadoiknaoaaDoor
