/- Part 18 of the proof: Check. -/
import Derived.Test.YtdjhoadoiknaoaaDoorZw17
set_option linter.unusedVariables false
set_option linter.unusedSimpArgs false
namespace Go.Proofs.YtdjhoadoiknaoaaDoor
open Go.RowKit
noncomputable def checkE (t : List (List Int)) (im : List Int) : Int :=
  if validE t ≠ 0 then validE t else if identI t = -1 then 9 else if 12 < t.length then 3 else if im.length = 0 ∨ 6 < im.length then 1 else if inB t.length im then 0 else 1
theorem identI_cases (t : List (List Int)) : identI t = -1 ∨ ∃ e : Nat, identI t = e ∧ e < t.length ∧ isId t e = true := by
  unfold identI
  cases h : (List.range t.length).find? (isId t) with
  | none => exact .inl rfl
  | some e =>
    refine .inr ⟨e, rfl, ?_, List.find?_some h⟩
    have := List.mem_of_find?_eq_some h
    simpa using this
structure Good (t : List (List Int)) (im : List Int) : Prop where
  valid : validE t = 0
  ident : ∃ e : Nat, identI t = e ∧ e < t.length ∧ isId t e = true
  le : t.length ≤ 12
  im0 : 0 < im.length
  im6 : im.length ≤ 6
  inb : inB t.length im = true
theorem checkE_good {t : List (List Int)} {im : List Int} : checkE t im = 0 ↔ Good t im := by
  unfold checkE
  constructor
  · intro h
    split at h
    · rename_i hv; exact absurd h hv
    rename_i hv
    split at h
    · omega
    rename_i hi
    split at h
    · omega
    split at h
    · omega
    split at h
    · exact ⟨by omega, (identI_cases t).resolve_left hi, by omega, by omega, by omega, by assumption⟩
    · omega
  · intro h
    obtain ⟨e, he, _⟩ := h.ident
    rw [if_neg (by rw [h.valid]; simp), if_neg (by omega), if_neg (by have := h.le; omega), if_neg (by have := h.im0; have := h.im6; omega), if_pos h.inb]
theorem c_valid {t : List (List Int)} {im : List Int} (h : validE t ≠ 0) : checkE t im = validE t := by rw [checkE, if_pos h]
theorem c_ident {t : List (List Int)} {im : List Int} (h : validE t = 0) (hi : identI t = -1) : checkE t im = 9 := by rw [checkE, if_neg (by omega), if_pos hi]
theorem c_big {t : List (List Int)} {im : List Int} (h : validE t = 0) (hi : ¬ identI t = -1) (hn : 12 < t.length) : checkE t im = 3 := by rw [checkE, if_neg (by omega), if_neg hi, if_pos hn]
theorem c_len {t : List (List Int)} {im : List Int} (h : validE t = 0) (hi : ¬ identI t = -1) (hn : ¬ 12 < t.length) (hl : im.length = 0 ∨ 6 < im.length) : checkE t im = 1 := by rw [checkE, if_neg (by omega), if_neg hi, if_neg hn, if_pos hl]
theorem c_in {t : List (List Int)} {im : List Int} (h : validE t = 0) (hi : ¬ identI t = -1) (hn : ¬ 12 < t.length) (hl : ¬ (im.length = 0 ∨ 6 < im.length)) : checkE t im = if inB t.length im then 0 else 1 := by
  rw [checkE, if_neg (by omega), if_neg hi, if_neg hn, if_neg hl]
set_option maxRecDepth 100000 in
set_option maxHeartbeats 800000 in
theorem check_any (B : Nat) (w : World) (v iv : Value) (t : List (List Int)) (im : List Int) (hB : B ≤ w.heap.size) (h : Mat B w v t) (hi : Row B w iv (ints im)) :
    Calls Tryd.prog 58 #[v, iv] w fun e w' => e = .returned (.int .i64 (checkE t im)) ∧ w.grownBy w' none := by
  have hlm := h.len_le
  unfold maxLen at hlm
  have him := hi.len_le
  rw [ints_length] at him
  unfold maxLen at him
  have H := Lib.hid h; have HI := Lib.hid hi
  have hv := validate_any B w v t hB h
  have HV := Lib.hid hv
  obtain ⟨sa, sc, rfl⟩ := h.shape
  obtain ⟨ia, ic, rfl⟩ := hi.shape
  rw [ints_length]
  clear h hv hi
  by_cases h1 : validE t = 0
  · rw [h1] at HV
    have H1 := Lib.hid h1
    have HID : ∀ W, w.grownBy W none → Hid (Calls Tryd.prog 71 #[.slice sa t.length sc] W fun e w' => e = .returned (.int .i64 (identI t)) ∧ W.grownBy w' none) := fun W hW => by
      have := identity_any B W _ t (by have := hW.size; omega) (H.out.kept hW (by simp))
      rw [identE_valid h1] at this
      exact Lib.hid this
    clear h1
    rcases identI_cases t with h2 | ⟨e0, h2, he0, hei⟩
    · have HC := Lib.hid (c_ident (im := im) H1.out h2)
      rw [h2] at HID
      clear h2
      go_enter Tryd.func58, Tryd.ntmps58
      go_wp2_with fail
      refine HV.out.mono ?_
      rintro e w1 ⟨rfl, hg1⟩
      go_wp2_with fail
      refine (HID w1 hg1).out.mono ?_
      rintro e w2 ⟨rfl, hg2⟩
      go_wp2
      go_ret
      exact ⟨ret_int HC.out.symm, grownBy_trans' hg1 hg2⟩
    · have h2' : ¬ identI t = -1 := by omega
      have H2 := Lib.hid h2'
      rw [h2] at HID
      clear h2 h2' hei
      by_cases h3 : 12 < t.length
      · have HC := Lib.hid (c_big (im := im) H1.out H2.out h3)
        go_enter Tryd.func58, Tryd.ntmps58
        go_wp2_with fail
        refine HV.out.mono ?_
        rintro e w1 ⟨rfl, hg1⟩
        go_wp2_with fail
        refine (HID w1 hg1).out.mono ?_
        rintro e w2 ⟨rfl, hg2⟩
        go_wp2
        go_ret
        exact ⟨ret_int HC.out.symm, grownBy_trans' hg1 hg2⟩
      · by_cases h4 : im.length = 0 ∨ 6 < im.length
        · have HC := Lib.hid (c_len (im := im) H1.out H2.out h3 h4)
          rcases h4 with h4 | h4
          · have e4 : ((im.length : Int) == 0) = true := by rw [h4]; rfl
            have H4 := Lib.hid h4; clear h4
            go_enter Tryd.func58, Tryd.ntmps58
            go_wp2_with fail
            refine HV.out.mono ?_
            rintro e w1 ⟨rfl, hg1⟩
            go_wp2_with fail
            refine (HID w1 hg1).out.mono ?_
            rintro e w2 ⟨rfl, hg2⟩
            go_wp2
            go_ret
            exact ⟨ret_int HC.out.symm, grownBy_trans' hg1 hg2⟩
          · have e4 : ((im.length : Int) == 0) = false := by rw [beq_eq_false_iff_ne]; omega
            go_enter Tryd.func58, Tryd.ntmps58
            go_wp2_with fail
            refine HV.out.mono ?_
            rintro e w1 ⟨rfl, hg1⟩
            go_wp2_with fail
            refine (HID w1 hg1).out.mono ?_
            rintro e w2 ⟨rfl, hg2⟩
            go_wp2
            go_ret
            exact ⟨ret_int HC.out.symm, grownBy_trans' hg1 hg2⟩
        · have HC := Lib.hid (c_in (im := im) H1.out H2.out h3 h4)
          have e4 : ((im.length : Int) == 0) = false := by rw [beq_eq_false_iff_ne]; omega
          have h5 : im.length ≤ 6 := by omega
          have h6 : 0 < im.length := by omega
          clear h4
          go_enter Tryd.func58, Tryd.ntmps58
          go_wp2_with fail
          refine HV.out.mono ?_
          rintro e w1 ⟨rfl, hg1⟩
          go_wp2_with fail
          refine (HID w1 hg1).out.mono ?_
          rintro e w2 ⟨rfl, hg2⟩
          have hgw := grownBy_trans' hg1 hg2
          obtain ⟨ib, io, icc, e, _, _, _, hra⟩ := (HI.out.kept hgw (by simp)).some_ (by rw [ints_length]; exact h6)
          simp only [Value.slice.injEq] at e
          obtain ⟨rfl, -, -⟩ := e
          have RA := Lib.hid hra
          clear hra hg1 hg2
          go_wp2
          go_loopg [29] im.length (fun g i wr => ∃ k : Nat, g + k = im.length ∧ i = .int .i64 k ∧ EntsOk t.length im k ∧ w2 = wr)
          case atStart => exact ⟨0, rfl, rfl, fun x hx => absurd hx (by omega), rfl⟩
          case round =>
            obtain ⟨y, hg, rfl, hok, rfl⟩ := hrel
            have OKY := Lib.hid hok; have HG2 := Lib.hid hg; clear hok hg
            by_cases hy : y < im.length
            · have hcy := RA.out.int y hy
              obtain ⟨z, hz⟩ : ∃ z, z = im.getD y 0 := ⟨_, rfl⟩
              rw [← hz] at hcy
              have HZ := Lib.hid hz; clear hz
              by_cases hb1 : z < 0
              · have HN : Hid (inB t.length im = false) := Lib.hid (inB_bad hy (by rw [← HZ.out]; exact .inl hb1))
                go_wp2
                go_ret
                exact ⟨ret_int (by rw [HC.out, HN.out]; rfl), hgw⟩
              · by_cases hb2 : (t.length : Int) ≤ z
                · have HN : Hid (inB t.length im = false) := Lib.hid (inB_bad hy (by rw [← HZ.out]; exact .inr hb2))
                  go_wp2
                  go_ret
                  exact ⟨ret_int (by rw [HC.out, HN.out]; rfl), hgw⟩
                · go_wp2
                  go_roundg (im.length - (y + 1))
                  case measure => have := HG2.out; omega
                  case rel =>
                    refine ⟨y + 1, by omega, by go_num, fun x hx => ?_, rfl⟩
                    rcases Nat.lt_succ_iff_lt_or_eq.1 hx with hx | rfl
                    · exact OKY.out x hx
                    · rw [← HZ.out]; omega
            · have HY : Hid (inB t.length im = true) := Lib.hid (inB_iff.2 (fun x hx => OKY.out x (by omega)))
              go_wp2
              go_ret
              exact ⟨ret_int (by rw [HC.out, HY.out]; rfl), hgw⟩
  · have hb : (validE t != 0) = true := by rw [bne_iff_ne]; exact h1
    have HC := Lib.hid (c_valid (im := im) h1)
    clear h1
    go_enter Tryd.func58, Tryd.ntmps58
    go_wp2_with fail
    refine HV.out.mono ?_
    rintro e w1 ⟨rfl, hg1⟩
    go_wp2
    go_ret
    exact ⟨ret_int HC.out.symm, hg1⟩
theorem mayLetters_any (w : World) (n : Int) :
    Calls Tryd.prog 80 #[.int .i64 n] w fun e w' => e = .returned (.bool (decide (1 ≤ n ∧ n ≤ 6))) ∧ w = w' := by
  by_cases h : 1 ≤ n
  · go_enter Tryd.func80, Tryd.ntmps80
    go_wp2
    go_ret
    exact ⟨ret_bool (by simp [h]), rfl⟩
  · go_enter Tryd.func80, Tryd.ntmps80
    go_wp2
    go_ret
    exact ⟨ret_bool (by simp; omega), rfl⟩
set_option maxHeartbeats 800000 in
theorem may_any (B : Nat) (w : World) (v iv : Value) (t : List (List Int)) (im : List Int) (h : Mat B w v t) (hi : Row B w iv (ints im)) :
    Calls Tryd.prog 61 #[v, iv] w fun e w' => e = .returned (.int .i64 (checkE t im)) ∧ ∃ m, w' = w.drewN m := by
  have hlm := h.len_le
  unfold maxLen at hlm
  have him := hi.len_le
  rw [ints_length] at him
  unfold maxLen at him
  have H := Lib.hid h; have HI := Lib.hid hi
  have hv := validate14_any B w v t h
  have HV := Lib.hid hv
  obtain ⟨sa, sc, rfl⟩ := h.shape
  obtain ⟨ia, ic, rfl⟩ := hi.shape
  rw [ints_length]
  clear h hv hi
  by_cases h1 : validE t = 0
  · rw [h1] at HV
    have H1 := Lib.hid h1
    have HID : ∀ m, Hid (Calls Tryd.prog 33 #[.slice sa t.length sc] (w.drewN m) fun e w' => e = .returned (.int .i64 (identI t)) ∧ w.drewN m = w') := fun m =>
      Lib.hid (identity14_any B _ _ t (H.out.of_heap rfl) (valid_of H1.out).1)
    clear h1
    rcases identI_cases t with h2 | ⟨e0, h2, he0, hei⟩
    · have HC := Lib.hid (c_ident (im := im) H1.out h2)
      rw [h2] at HID
      clear h2
      go_enter Tryd.func61, Tryd.ntmps61
      go_wp2_with fail
      refine HV.out.mono ?_
      rintro e w1 ⟨rfl, m, rfl⟩
      go_wp2_with fail
      refine (HID m).out.mono ?_
      rintro e w2 ⟨rfl, rfl⟩
      go_wp2
      go_ret
      exact ⟨ret_int HC.out.symm, m, rfl⟩
    · have h2' : ¬ identI t = -1 := by omega
      have H2 := Lib.hid h2'
      rw [h2] at HID
      have hne : ((e0 : Int) == -1) = false := by rw [beq_eq_false_iff_ne]; omega
      clear h2 h2' hei
      by_cases h3 : 12 < t.length
      · have HC := Lib.hid (c_big (im := im) H1.out H2.out h3)
        go_enter Tryd.func61, Tryd.ntmps61
        go_wp2_with fail
        refine HV.out.mono ?_
        rintro e w1 ⟨rfl, m, rfl⟩
        go_wp2_with fail
        refine (HID m).out.mono ?_
        rintro e w2 ⟨rfl, rfl⟩
        go_wp2
        go_ret
        exact ⟨ret_int HC.out.symm, m, rfl⟩
      · by_cases h4 : im.length = 0 ∨ 6 < im.length
        · have HC := Lib.hid (c_len (im := im) H1.out H2.out h3 h4)
          have hml : decide (1 ≤ (im.length : Int) ∧ (im.length : Int) ≤ 6) = false := by rw [decide_eq_false_iff_not]; omega
          have HML : ∀ m, Hid (Calls Tryd.prog 80 #[.int .i64 im.length] (w.drewN m) fun e w' => e = .returned (.bool false) ∧ w.drewN m = w') := fun m => by
            have := mayLetters_any (w.drewN m) im.length
            rw [hml] at this
            exact Lib.hid this
          clear hml h4
          go_enter Tryd.func61, Tryd.ntmps61
          go_wp2_with fail
          refine HV.out.mono ?_
          rintro e w1 ⟨rfl, m, rfl⟩
          go_wp2_with fail
          refine (HID m).out.mono ?_
          rintro e w2 ⟨rfl, rfl⟩
          go_wp2_with fail
          refine (HML m).out.mono ?_
          rintro e w2 ⟨rfl, rfl⟩
          go_wp2
          go_ret
          exact ⟨ret_int HC.out.symm, m, rfl⟩
        · have HC := Lib.hid (c_in (im := im) H1.out H2.out h3 h4)
          have hml : decide (1 ≤ (im.length : Int) ∧ (im.length : Int) ≤ 6) = true := by rw [decide_eq_true_eq]; omega
          have HML : ∀ m, Hid (Calls Tryd.prog 80 #[.int .i64 im.length] (w.drewN m) fun e w' => e = .returned (.bool true) ∧ w.drewN m = w') := fun m => by
            have := mayLetters_any (w.drewN m) im.length
            rw [hml] at this
            exact Lib.hid this
          have HIN : ∀ m, Hid (Calls Tryd.prog 69 #[.slice sa t.length sc, .slice ia im.length ic] (w.drewN m) fun e w' => e = .returned (.bool (inB t.length im)) ∧ w.drewN m = w') := fun m => by
            have h1 := HI.out.of_heap (w' := w.drewN m) rfl
            rw [ints_length] at h1
            exact Lib.hid (in14_any B _ sa t.length sc _ im hlm h1)
          clear hml h4
          cases hb : inB t.length im
          · rw [hb] at HC HIN
            clear hb
            go_enter Tryd.func61, Tryd.ntmps61
            go_wp2_with fail
            refine HV.out.mono ?_
            rintro e w1 ⟨rfl, m, rfl⟩
            go_wp2_with fail
            refine (HID m).out.mono ?_
            rintro e w2 ⟨rfl, rfl⟩
            go_wp2_with fail
            refine (HML m).out.mono ?_
            rintro e w2 ⟨rfl, rfl⟩
            go_wp2_with fail
            refine (HIN m).out.mono ?_
            rintro e w2 ⟨rfl, rfl⟩
            go_wp2
            go_ret
            exact ⟨ret_int (by rw [HC.out]; rfl), m, rfl⟩
          · rw [hb] at HC HIN
            clear hb
            go_enter Tryd.func61, Tryd.ntmps61
            go_wp2_with fail
            refine HV.out.mono ?_
            rintro e w1 ⟨rfl, m, rfl⟩
            go_wp2_with fail
            refine (HID m).out.mono ?_
            rintro e w2 ⟨rfl, rfl⟩
            go_wp2_with fail
            refine (HML m).out.mono ?_
            rintro e w2 ⟨rfl, rfl⟩
            go_wp2_with fail
            refine (HIN m).out.mono ?_
            rintro e w2 ⟨rfl, rfl⟩
            go_wp2
            go_ret
            exact ⟨ret_int (by rw [HC.out]; rfl), m, rfl⟩
  · have hb : (validE t != 0) = true := by rw [bne_iff_ne]; exact h1
    have HC := Lib.hid (c_valid (im := im) h1)
    clear h1
    go_enter Tryd.func61, Tryd.ntmps61
    go_wp2_with fail
    refine HV.out.mono ?_
    rintro e w1 ⟨rfl, m, rfl⟩
    go_wp2
    go_ret
    exact ⟨ret_int HC.out.symm, m, rfl⟩
end Go.Proofs.YtdjhoadoiknaoaaDoor
