/- Part 17 of the proof: Prod. -/
import Derived.Test.YtdjhoadoiknaoaaDoorZw16
set_option linter.unusedVariables false
set_option linter.unusedSimpArgs false
namespace Go.Proofs.YtdjhoadoiknaoaaDoor
open Go.RowKit
noncomputable def mayB (t : List (List Int)) (zs : List Int) : Bool := (validE t == 0) && decide (t.length ≤ 12) && zs.all (setB t.length)
noncomputable def omegaP (t : List (List Int)) (a : Int) : Int := if mayB t [a] = true then (omegaSet t.length (entN t) a.toNat : Nat) else 0
theorem mayB_one {t : List (List Int)} {a : Int} : mayB t [a] = true ↔ validE t = 0 ∧ t.length ≤ 12 ∧ setB t.length a = true := by
  simp [mayB, and_assoc]
theorem setB_true {n : Nat} {s : Int} (h : setB n s = true) : ∃ a : Nat, s = a ∧ a < 2 ^ n := by
  simp only [setB, decide_eq_true_eq] at h
  exact ⟨s.toNat, by omega, by omega⟩
theorem omegaP_no {t : List (List Int)} {a : Int} (h : ¬ mayB t [a] = true) : omegaP t a = 0 := by rw [omegaP, if_neg h]
theorem omegaP_yes {t : List (List Int)} {a : Nat} (h : mayB t [(a : Int)] = true) : omegaP t a = (omegaSet t.length (entN t) a : Nat) := by rw [omegaP, if_pos h]; rfl
theorem validSet_any' (w : World) (a : Option Addr) (n cap : Nat) (s : Int) (hn : n ≤ 12) :
    Calls Tryd.prog 52 #[.slice a n cap, .int .i64 s] w fun e w' => e = .returned (.bool (setB n s)) ∧ w = w' := validSet_any w a n cap s hn
set_option maxHeartbeats 400000 in
theorem pomega_any (B : Nat) (w : World) (v : Value) (t : List (List Int)) (a : Int) (hB : B ≤ w.heap.size) (h : Mat B w v t) (hT : TabOk w) :
    Calls Tryd.prog 22 #[v, .int .i64 a] w fun e w' => e = .returned (.int .i64 (omegaP t a)) ∧ w.grownBy w' none := by
  have hlm := h.len_le
  unfold maxLen at hlm
  have H := Lib.hid h
  have hv := validate_any B w v t hB h
  have HV := Lib.hid hv
  obtain ⟨sa, sc, rfl⟩ := h.shape
  clear h hv
  by_cases h1 : validE t = 0
  · rw [h1] at HV
    have H1 := Lib.hid h1; clear h1
    by_cases h2 : t.length ≤ 12
    · cases h3 : setB t.length a
      · have HN := Lib.hid (omegaP_no (t := t) (a := a) (fun hm => by have := (mayB_one.1 hm).2.2; rw [h3] at this; cases this))
        have H3 := Lib.hid h3; clear h3
        go_enter Tryd.func22, Tryd.ntmps22
        go_wp2_with fail
        refine HV.out.mono ?_
        rintro e w1 ⟨rfl, hg1⟩
        go_wp2_with fail
        refine (validSet_any' w1 sa t.length sc a h2).mono ?_
        rintro e w2 ⟨rfl, rfl⟩
        rw [H3.out]
        go_wp2
        go_ret
        exact ⟨ret_int HN.out.symm, hg1⟩
      · have hm : mayB t [a] = true := mayB_one.2 ⟨H1.out, h2, h3⟩
        obtain ⟨a', rfl, ha⟩ := setB_true h3
        have HY := Lib.hid (omegaP_yes hm)
        have H3 := Lib.hid h3; clear h3 hm
        go_enter Tryd.func22, Tryd.ntmps22
        go_wp2_with fail
        refine HV.out.mono ?_
        rintro e w1 ⟨rfl, hg1⟩
        have HG1 := Lib.hid hg1
        clear hg1
        go_wp2_with fail
        refine (validSet_any' w1 sa t.length sc a' h2).mono ?_
        rintro e w2 ⟨rfl, rfl⟩
        rw [H3.out]
        go_wp2_with fail
        refine (newSets_any B w1 _ t (by have := HG1.out.size; omega) (H.out.kept HG1.out (by simp)) H1.out h2 (hT.kept HG1.out (by simp))).mono ?_
        rintro e w2 ⟨p, go, rfl, hs, hg2⟩
        have hT2 := hT.kept (grownBy_trans' HG1.out hg2) (by simp)
        have HS := Lib.hid hs; have HG2 := Lib.hid hg2
        clear hs hg2
        go_wp2_with fail
        refine (omega_any _ _ w2 p go t.length (entN t) a' HS.out (tb_of H1.out) h2 ha hT2).mono ?_
        rintro e w3 ⟨rfl, hs3, hg3⟩
        have hlt := HS.out.go_lt'
        go_wp2
        go_ret
        exact ⟨ret_int HY.out.symm, grown_far (grownBy_trans' HG1.out HG2.out) hg3 (fun q e => by have : go = q := Option.some.inj e; have := HG1.out.size; omega)⟩
    · have HN := Lib.hid (omegaP_no (t := t) (a := a) (fun hm => h2 (mayB_one.1 hm).2.1))
      go_enter Tryd.func22, Tryd.ntmps22
      go_wp2_with fail
      refine HV.out.mono ?_
      rintro e w1 ⟨rfl, hg1⟩
      go_wp2
      go_ret
      exact ⟨ret_int HN.out.symm, hg1⟩
  · have hb : (validE t != 0) = true := by rw [bne_iff_ne]; exact h1
    have HN := Lib.hid (omegaP_no (t := t) (a := a) (fun hm => h1 (mayB_one.1 hm).1))
    clear h1
    go_enter Tryd.func22, Tryd.ntmps22
    go_wp2_with fail
    refine HV.out.mono ?_
    rintro e w1 ⟨rfl, hg1⟩
    go_wp2
    go_ret
    exact ⟨ret_int HN.out.symm, hg1⟩
theorem mayB_bad {t : List (List Int)} {zs : List Int} {k : Nat} (hk : k < zs.length) (h : setB t.length (zs.getD k 0) = false) : mayB t zs = false := by
  have : zs.all (setB t.length) = false := by
    rw [List.all_eq_false]
    refine ⟨zs.getD k 0, ?_, by rw [h]; simp⟩
    simp only [List.getD, List.getElem?_eq_getElem hk]; exact List.getElem_mem hk
  simp [mayB, this]
def SetsTo (n : Nat) (zs : List Int) (k : Nat) : Prop := ∀ i, i < k → setB n (zs.getD i 0) = true
theorem mayB_good {t : List (List Int)} {zs : List Int} (h1 : validE t = 0) (h2 : t.length ≤ 12) (h : SetsTo t.length zs zs.length) : mayB t zs = true := by
  have : zs.all (setB t.length) = true := by
    rw [List.all_eq_true]
    intro x hx
    obtain ⟨i, hi, rfl⟩ := List.getElem_of_mem hx
    have := h i hi
    simpa [List.getD, List.getElem?_eq_getElem hi] using this
  simp [mayB, h1, h2, this]
set_option maxHeartbeats 400000 in
theorem may40_any (B : Nat) (w : World) (v sv : Value) (t : List (List Int)) (zs : List Int) (h : Mat B w v t) (hz : Row B w sv (ints zs)) (hz0 : 0 < zs.length) (hzl : zs.length ≤ 10) :
    Calls Tryd.prog 54 #[v, sv] w fun e w' => e = .returned (.bool (mayB t zs)) ∧ ∃ m, w' = w.drewN m := by
  have hlm := h.len_le
  unfold maxLen at hlm
  have hv := validate14_any B w v t h
  have HV := Lib.hid hv
  obtain ⟨sa, sc, rfl⟩ := h.shape
  obtain ⟨zb, zo, zc, rfl, _, _, _, hra⟩ := hz.some_ (by rw [ints_length]; exact hz0)
  rw [ints_length]
  have RA := Lib.hid hra
  clear h hv hz hra
  by_cases h1 : validE t = 0
  · rw [h1] at HV
    have H1 := Lib.hid h1; clear h1
    by_cases h2 : t.length ≤ 12
    · go_enter Tryd.func54, Tryd.ntmps54
      go_wp2_with fail
      refine HV.out.mono ?_
      rintro e w1 ⟨rfl, m, rfl⟩
      go_wp2
      go_loopg [17] zs.length (fun g i wr => ∃ k : Nat, g + k = zs.length ∧ i = .int .i64 k ∧ SetsTo t.length zs k ∧ wr = w.drewN m)
      case atStart => exact ⟨0, rfl, rfl, fun x hx => absurd hx (by omega), rfl⟩
      case round =>
        obtain ⟨k, hg, rfl, hok, rfl⟩ := hrel
        have HG := Lib.hid hg; have OK := Lib.hid hok; clear hg hok
        by_cases hk : k < zs.length
        · have hk' : (k : Int) < zs.length := by omega
          have ck := RA.out.int k hk
          obtain ⟨z, hz⟩ : ∃ z, z = zs.getD k 0 := ⟨_, rfl⟩
          rw [← hz] at ck
          have HZ := Lib.hid hz; clear hz
          go_wp2_with fail
          refine (isSet_any _ sa t.length sc z h2).mono ?_
          rintro e w2 ⟨rfl, rfl⟩
          cases hb : setB t.length z
          · have HN := Lib.hid (mayB_bad (t := t) hk (by rw [← HZ.out]; exact hb))
            clear hb
            go_wp2
            go_ret
            exact ⟨ret_bool HN.out.symm, m, rfl⟩
          · have HB := Lib.hid hb; clear hb
            go_wp2
            go_roundg (zs.length - (k + 1))
            case measure => have := HG.out; omega
            case rel =>
              refine ⟨k + 1, by omega, by go_num, fun i hi => ?_, rfl⟩
              rcases Nat.lt_succ_iff_lt_or_eq.1 hi with hi | rfl
              · exact OK.out i hi
              · rw [← HZ.out]; exact HB.out
        · have HY : Hid (mayB t zs = true) := by
            have hkz : k = zs.length := by have := HG.out; omega
            exact Lib.hid (mayB_good H1.out h2 (by rw [← hkz]; exact OK.out))
          go_wp2
          go_ret
          exact ⟨ret_bool HY.out.symm, m, rfl⟩
    · have HN : Hid (mayB t zs = false) := Lib.hid (by simp [mayB, h2])
      go_enter Tryd.func54, Tryd.ntmps54
      go_wp2_with fail
      refine HV.out.mono ?_
      rintro e w1 ⟨rfl, m, rfl⟩
      go_wp2
      go_ret
      exact ⟨ret_bool HN.out.symm, m, rfl⟩
  · have hb : (validE t != 0) = true := by rw [bne_iff_ne]; exact h1
    have HN : Hid (mayB t zs = false) := Lib.hid (by simp [mayB, h1])
    clear h1
    go_enter Tryd.func54, Tryd.ntmps54
    go_wp2_with fail
    refine HV.out.mono ?_
    rintro e w1 ⟨rfl, m, rfl⟩
    go_wp2
    go_ret
    exact ⟨ret_bool HN.out.symm, m, rfl⟩
theorem row_lit (w : World) (zs : List Int) (cs : Array Value) (hcs : cs.toList = ints zs) (n : Nat) (hn : zs.length = n) (hm : n ≤ maxLen) : Row (w.heap.size + 1) (w.alloc (.cells cs 3)) (.slice (some ⟨w.heap.size, 0, none⟩) n n) (ints zs) := by
  have ha := Arr.new w 3 cs
  rw [hcs] at ha
  exact .inr ⟨w.heap.size, 0, n, by rw [ints_length, hn], by omega, by rw [ints_length]; omega, hm, ha.row⟩
set_option maxHeartbeats 400000 in
theorem romega_any (B : Nat) (w : World) (v : Value) (t : List (List Int)) (a : Int) (hB : B ≤ w.heap.size) (h : Mat B w v t) :
    Calls Tryd.prog 23 #[v, .int .i64 a] w fun e w' => e = .returned (.int .i64 (omegaP t a)) ∧ w.grownBy w' none := by
  have hA := World.grownBy_alloc w (.cells #[.int .i64 a] 3) none
  have hr := row_lit w [a] #[.int .i64 a] rfl 1 rfl (by unfold maxLen; omega)
  have hM := may40_any (w.heap.size + 1) _ v _ t [a] ((h.kept hA (by simp)).mono (by omega)) hr (by simp) (by simp)
  have HM := Lib.hid hM; have HA := Lib.hid hA; have H := Lib.hid h
  obtain ⟨sa, sc, rfl⟩ := h.shape
  clear hA hr hM h
  cases hm : mayB t [a]
  · have HN := Lib.hid (omegaP_no (t := t) (a := a) (by rw [hm]; simp))
    rw [hm] at HM
    clear hm
    go_enter Tryd.func23, Tryd.ntmps23
    go_wp2_with fail
    refine HM.out.mono ?_
    rintro e w1 ⟨rfl, m, rfl⟩
    go_wp2
    go_ret
    exact ⟨ret_int HN.out.symm, grownBy_trans' HA.out (grownBy_drewN _ _ _)⟩
  · obtain ⟨h1, h2, h3⟩ := mayB_one.1 hm
    obtain ⟨a', rfl, ha⟩ := setB_true h3
    have HY := Lib.hid (omegaP_yes hm)
    rw [hm] at HM
    have H1 := Lib.hid h1
    clear hm h3 h1
    go_enter Tryd.func23, Tryd.ntmps23
    go_wp2_with fail
    refine HM.out.mono ?_
    rintro e w1 ⟨rfl, m, rfl⟩
    go_wp2_with fail
    refine (omega40_any B _ _ t a' (H.out.kept (grownBy_trans' HA.out (grownBy_drewN _ _ _)) (by simp)) H1.out h2 ha).mono ?_
    rintro e w2 ⟨rfl, rfl⟩
    go_wp2
    go_ret
    exact ⟨ret_int HY.out.symm, grownBy_trans' HA.out (grownBy_drewN _ _ _)⟩
end Go.Proofs.YtdjhoadoiknaoaaDoor
