/- Part 11 of the proof: Assoc. -/
import Derived.Test.YtdjhoadoiknaoaaDoorZw10
set_option linter.unusedVariables false
set_option linter.unusedSimpArgs false
namespace Go.Proofs.YtdjhoadoiknaoaaDoor
open Go.RowKit
def assAt (t : List (List Int)) (x y z : Nat) : Prop := entN t (entN t x y) z = entN t x (entN t y z)
theorem assoc_of_all {t : List (List Int)} (h : ∀ x, x < t.length → ∀ y, y < t.length → ∀ z, z < t.length → assAt t x y z) : Assoc t := fun g hg x y hx hy => h x hx g hg y hy
theorem not_assoc {t : List (List Int)} {x y z : Nat} (hx : x < t.length) (hy : y < t.length) (hz : z < t.length) (h : ¬ assAt t x y z) : ¬ Assoc t := fun ha => h (ha y hy x z hx hz)
def Assoced (w : World) (t : List (List Int)) (e : Ending) (w' : World) : Prop := ∃ x y z : Int, e = .returned (.tuple #[.int .i64 x, .int .i64 y, .int .i64 z, .int .i64 (validE t)]) ∧ ∃ m, w' = w.drewN m
def DoneX (t : List (List Int)) (k : Nat) : Prop := ∀ x, x < k → ∀ y, y < t.length → ∀ z, z < t.length → assAt t x y z
def DoneY (t : List (List Int)) (x k : Nat) : Prop := ∀ y, y < k → ∀ z, z < t.length → assAt t x y z
def DoneZ (t : List (List Int)) (x y k : Nat) : Prop := ∀ z, z < k → assAt t x y z
theorem Assoced.mk {w : World} {t : List (List Int)} {x y z c : Int} {m : Nat} (h : c = validE t) : Assoced w t (.returned (.tuple #[.int .i64 x, .int .i64 y, .int .i64 z, .int .i64 c])) (w.drewN m) := ⟨x, y, z, by rw [h], m, rfl⟩
theorem Assoced.mk0 {w : World} {t : List (List Int)} {x y z c : Int} (h : c = validE t) : Assoced w t (.returned (.tuple #[.int .i64 x, .int .i64 y, .int .i64 z, .int .i64 c])) w := ⟨x, y, z, by rw [h], 0, rfl⟩
set_option maxRecDepth 100000 in
set_option maxHeartbeats 800000 in
theorem associative_any (B : Nat) (w : World) (v : Value) (t : List (List Int)) (h : Mat B w v t) :
    Calls Tryd.prog 113 #[v] w (Assoced w t) := by
  by_cases hE : shapeE t = 0
  · have hs := shape_of hE
    obtain ⟨b, off, cap, RB, RO, RC, rfl, hc1, hc2, hq⟩ := h.sq hs
    have hmx : cap ≤ 9223372036854775807 := by unfold maxLen at hc2; omega
    have HE := Lib.hid hE; have HS := Lib.hid hs; have HQ := Lib.hid hq; have H0 := Lib.hid h
    clear hE hs hq h
    go_enter Tryd.func113, Tryd.ntmps113
    go_wp2_with fail
    refine (shape14_any B w _ t H0.out).mono ?_
    rintro e w' ⟨rfl, rfl⟩
    rw [HE.out]
    go_wp2
    go_loopg [17] t.length (fun g i wr => ∃ k m : Nat, g + k = t.length ∧ i = .int .i64 k ∧ DoneX t k ∧ wr = w.drewN m)
    case atStart => exact ⟨0, 0, rfl, rfl, fun x hx => absurd hx (by omega), rfl⟩
    case round =>
      obtain ⟨x, m, hg, rfl, hok, rfl⟩ := hrel
      have OK := Lib.hid hok; have HG := Lib.hid hg; clear hok hg
      by_cases hx : x < t.length
      · have hx' : (x : Int) < t.length := by omega
        have hxc := HQ.out.hd x hx
        go_wp2
        go_loopg [22] t.length (fun g i wr => ∃ k m : Nat, g + k = t.length ∧ i = .int .i64 k ∧ DoneY t x k ∧ wr = w.drewN m)
        case atStart => exact ⟨0, m, rfl, rfl, fun x hx => absurd hx (by omega), rfl⟩
        case round =>
          obtain ⟨y, m, hg, rfl, hok, rfl⟩ := hrel
          have OKY := Lib.hid hok; have HGY := Lib.hid hg; clear hok hg
          by_cases hy : y < t.length
          · have hy' : (y : Int) < t.length := by omega
            have hyc := HQ.out.hd y hy
            have hxy := HQ.out.el x y hx hy
            obtain ⟨p, hp⟩ : ∃ p, p = entN t x y := ⟨_, rfl⟩
            have hpl : p < t.length := by rw [hp]; exact entN_lt HS.out hx hy
            have hpl' : (p : Int) < t.length := by omega
            have hpc := HQ.out.hd p hpl
            rw [← hp] at hxy
            have HP := Lib.hid hp; clear hp
            go_wp2
            go_loopg [27] t.length (fun g i wr => ∃ k m : Nat, g + k = t.length ∧ i = .int .i64 k ∧ DoneZ t x y k ∧ wr = w.drewN m)
            case atStart => exact ⟨0, m, rfl, rfl, fun x hx => absurd hx (by omega), rfl⟩
            case round =>
              obtain ⟨z, m, hg, rfl, hok, rfl⟩ := hrel
              have OKZ := Lib.hid hok; have HGZ := Lib.hid hg; clear hok hg
              by_cases hz : z < t.length
              · have hz' : (z : Int) < t.length := by omega
                have hyz := HQ.out.el y z hy hz
                have hpz := HQ.out.el p z hpl hz
                obtain ⟨q, hq⟩ : ∃ q, q = entN t y z := ⟨_, rfl⟩
                have hql : q < t.length := by rw [hq]; exact entN_lt HS.out hy hz
                have hql' : (q : Int) < t.length := by omega
                rw [← hq] at hyz
                have hxq := HQ.out.el x q hx hql
                obtain ⟨r, hr⟩ : ∃ r, r = entN t p z := ⟨_, rfl⟩
                obtain ⟨s, hs⟩ : ∃ s, s = entN t x q := ⟨_, rfl⟩
                rw [← hr] at hpz
                rw [← hs] at hxq
                have hass : assAt t x y z ↔ r = s := by rw [assAt, ← HP.out, ← hq, ← hr, ← hs]
                have HA := Lib.hid hass
                clear hq hr hs hass
                by_cases hrs : r = s
                · subst hrs
                  have ht : ((r : Int) != (r : Int)) = false := by simp
                  go_wp2
                  go_quiet (fail)
                  go_wp2
                  go_roundg (t.length - (z + 1))
                  case measure => have := HGZ.out; omega
                  case rel =>
                    refine ⟨z + 1, _, by omega, by go_num, fun z' hz' => ?_, rfl⟩
                    rcases Nat.lt_succ_iff_lt_or_eq.1 hz' with hz' | rfl
                    · exact OKZ.out z' hz'
                    · exact HA.out.2 (by simp)
                · have ht : ((r : Int) != (s : Int)) = true := by rw [bne_iff_ne]; omega
                  have HRS := Lib.hid hrs; clear hrs
                  go_wp2
                  go_quiet (fail)
                  go_wp2
                  refine bodyPost_ret (v := .tuple #[.int .i64 x, .int .i64 y, .int .i64 z, .int .i64 5]) (by simp [results, Tryd.results113, go_sem]) rfl ?_
                  rw [World.drewN_drewN]
                  exact Assoced.mk (validE_not HE.out (not_assoc hx hy hz (fun h => HRS.out (HA.out.1 h)))).symm
              · go_wp2
                go_roundg (t.length - (y + 1))
                case measure => have := HGY.out; omega
                case rel =>
                  refine ⟨y + 1, m, by omega, by go_num, fun y' hy' => ?_, rfl⟩
                  rcases Nat.lt_succ_iff_lt_or_eq.1 hy' with hy' | rfl
                  · exact OKY.out y' hy'
                  · exact fun z' hz' => OKZ.out z' (by omega)
          · go_wp2
            go_roundg (t.length - (x + 1))
            case measure => have := HG.out; omega
            case rel =>
              refine ⟨x + 1, m, by omega, by go_num, fun x' hx' => ?_, rfl⟩
              rcases Nat.lt_succ_iff_lt_or_eq.1 hx' with hx' | rfl
              · exact OK.out x' hx'
              · exact fun y' hy' => OKY.out y' (by omega)
      · go_wp2
        refine bodyPost_ret (v := .tuple #[.int .i64 0, .int .i64 0, .int .i64 0, .int .i64 0]) (by simp [results, Tryd.results113, go_sem]) rfl ?_
        exact Assoced.mk (validE_assoc HE.out (assoc_of_all (fun x' hx' => OK.out x' (by omega)))).symm
  · have hb : (shapeE t != 0) = true := by rw [bne_iff_ne]; exact hE
    have HE := Lib.hid hE; clear hE
    go_enter Tryd.func113, Tryd.ntmps113
    go_wp2_with fail
    refine (shape14_any B w v t h).mono ?_
    rintro e w' ⟨rfl, rfl⟩
    go_wp2
    refine bodyPost_ret (v := .tuple #[.int .i64 0, .int .i64 0, .int .i64 0, .int .i64 (shapeE t)]) (by simp [results, Tryd.results113, go_sem]) rfl ?_
    exact Assoced.mk0 (validE_shape HE.out).symm
theorem validate14_any (B : Nat) (w : World) (v : Value) (t : List (List Int)) (h : Mat B w v t) :
    Calls Tryd.prog 95 #[v] w fun e w' => e = .returned (.int .i64 (validE t)) ∧ ∃ m, w' = w.drewN m := by
  go_enter Tryd.func95, Tryd.ntmps95
  go_wp2_with fail
  refine (associative_any B w v t h).mono ?_
  rintro e w' ⟨x, y, z, rfl, m, rfl⟩
  go_wp2
  go_ret
  exact ⟨rfl, m, rfl⟩
def idAt (t : List (List Int)) (e x : Nat) : Bool := entN t e x == x && entN t x e == x
def isId (t : List (List Int)) (e : Nat) : Bool := (List.range t.length).all (idAt t e)
def identI (t : List (List Int)) : Int := match (List.range t.length).find? (isId t) with
  | some e => e
  | none => -1
theorem find_range {p : Nat → Bool} {n e : Nat} (he : e < n) (hp : p e = true) (hb : ∀ x, x < e → p x = false) : (List.range n).find? p = some e := by
  rw [List.find?_eq_some_iff_getElem]
  refine ⟨hp, e, by simpa using he, by simp, fun j hj => by simp [hb j hj]⟩
theorem identI_some {t : List (List Int)} {e : Nat} (he : e < t.length) (hp : isId t e = true) (hb : ∀ x, x < e → isId t x = false) : identI t = e := by rw [identI, find_range he hp hb]
theorem identI_none {t : List (List Int)} (hb : ∀ x, x < t.length → isId t x = false) : identI t = -1 := by
  have : (List.range t.length).find? (isId t) = none := by
    rw [List.find?_eq_none]; intro x hx; rw [hb x (by simpa using hx)]; simp
  rw [identI, this]
theorem all_range_succ (p : Nat → Bool) (n : Nat) : (List.range (n + 1)).all p = ((List.range n).all p && p n) := by
  rw [List.range_succ, List.all_append]; simp
def NoId (t : List (List Int)) (k : Nat) : Prop := ∀ x, x < k → isId t x = false
set_option maxRecDepth 100000 in
set_option maxHeartbeats 800000 in
theorem identity14_any (B : Nat) (w : World) (v : Value) (t : List (List Int)) (h : Mat B w v t) (hs : Shape t) :
    Calls Tryd.prog 33 #[v] w fun e w' => e = .returned (.int .i64 (identI t)) ∧ w = w' := by
  obtain ⟨b, off, cap, RB, RO, RC, rfl, hc1, hc2, hq⟩ := h.sq hs
  have hmx : cap ≤ 9223372036854775807 := by unfold maxLen at hc2; omega
  have HQ := Lib.hid hq; clear hs hq h
  go_enter Tryd.func33, Tryd.ntmps33
  go_wp2
  go_loopg [8] t.length (fun g i wr => ∃ k : Nat, g + k = t.length ∧ i = .int .i64 k ∧ NoId t k ∧ w = wr)
  case atStart => exact ⟨0, rfl, rfl, fun x hx => absurd hx (by omega), rfl⟩
  case round =>
    obtain ⟨x, hg, rfl, hok, rfl⟩ := hrel
    have OK := Lib.hid hok; have HG := Lib.hid hg; clear hok hg
    by_cases hx : x < t.length
    · have hx' : (x : Int) < t.length := by omega
      have hxc := HQ.out.hd x hx
      go_wp2
      go_loopg [4, 13] t.length (fun g s i wr => ∃ (k : Nat) (c : Bool), g + k = t.length ∧ s = .bool c ∧ i = .int .i64 k ∧ Hid (c = (List.range k).all (idAt t x)) ∧ w = wr)
      case atStart => exact ⟨0, true, rfl, rfl, rfl, Lib.hid rfl, rfl⟩
      case round =>
        obtain ⟨y, c, hg, rfl, rfl, hc, rfl⟩ := hrel
        have HGY := Lib.hid hg; clear hg
        by_cases hy : y < t.length
        · have hy' : (y : Int) < t.length := by omega
          have hyc := HQ.out.hd y hy
          have hxy := HQ.out.el x y hx hy
          have hyx := HQ.out.el y x hy hx
          cases c
          · go_wp2
            go_roundg (t.length - (y + 1))
            case measure => have := HGY.out; omega
            case rel => exact ⟨y + 1, false, by omega, rfl, by go_num, Lib.hid (by rw [all_range_succ, ← hc.out]; rfl), rfl⟩
          · obtain ⟨p, hp⟩ : ∃ p, p = entN t x y := ⟨_, rfl⟩
            obtain ⟨q, hq⟩ : ∃ q, q = entN t y x := ⟨_, rfl⟩
            rw [← hp] at hxy
            rw [← hq] at hyx
            have HI : Hid (idAt t x y = (p == y && q == y)) := by rw [hp, hq]; exact Lib.hid rfl
            clear hp hq
            by_cases h1 : p = y
            · by_cases h2 : q = y
              · have e1 : ((p : Int) == (y : Int)) = true := by rw [h1]; simp
                have e2 : ((q : Int) == (y : Int)) = true := by rw [h2]; simp
                have H1 := Lib.hid h1; have H2 := Lib.hid h2; clear h1 h2
                go_wp2
                go_roundg (t.length - (y + 1))
                case measure => have := HGY.out; omega
                case rel => exact ⟨y + 1, true, by omega, rfl, by go_num, Lib.hid (by rw [all_range_succ, ← hc.out, HI.out, H1.out, H2.out]; simp), rfl⟩
              · have e1 : ((p : Int) == (y : Int)) = true := by rw [h1]; simp
                have e2 : ((q : Int) == (y : Int)) = false := by rw [beq_eq_false_iff_ne]; omega
                have H1 := Lib.hid h1; have H2 := Lib.hid h2; clear h1 h2
                go_wp2
                go_roundg (t.length - (y + 1))
                case measure => have := HGY.out; omega
                case rel => exact ⟨y + 1, false, by omega, rfl, by go_num, Lib.hid (by rw [all_range_succ, HI.out]; simp [H2.out]), rfl⟩
            · have e1 : ((p : Int) == (y : Int)) = false := by rw [beq_eq_false_iff_ne]; omega
              have H1 := Lib.hid h1; clear h1
              go_wp2
              go_roundg (t.length - (y + 1))
              case measure => have := HGY.out; omega
              case rel => exact ⟨y + 1, false, by omega, rfl, by go_num, Lib.hid (by rw [all_range_succ, HI.out]; simp [H1.out]), rfl⟩
        · have hI : Hid (c = isId t x) := by
            have : y = t.length := by have := HGY.out; omega
            subst this; exact hc
          cases c
          · go_wp2
            go_roundg (t.length - (x + 1))
            case measure => have := HG.out; omega
            case rel =>
              refine ⟨x + 1, by omega, by go_num, fun x' hx' => ?_, rfl⟩
              rcases Nat.lt_succ_iff_lt_or_eq.1 hx' with hx' | rfl
              · exact OK.out x' hx'
              · exact hI.out.symm
          · go_wp2
            go_ret
            exact ⟨ret_int (identI_some hx hI.out.symm OK.out).symm, rfl⟩
    · go_wp2
      go_ret
      exact ⟨ret_int (identI_none (fun x' hx' => OK.out x' (by omega))).symm, rfl⟩
def inB (n : Nat) (l : List Int) : Bool := l.all fun x => decide (0 ≤ x ∧ x < n)
theorem inB_iff {n : Nat} {l : List Int} : inB n l = true ↔ ∀ y, y < l.length → 0 ≤ l.getD y 0 ∧ l.getD y 0 < n := by
  simp only [inB, List.all_eq_true, decide_eq_true_eq]
  refine ⟨fun h y hy => ?_, fun h x hx => ?_⟩
  · have := h (l[y]) (List.getElem_mem hy)
    simpa [List.getD, List.getElem?_eq_getElem hy] using this
  · obtain ⟨y, hy, rfl⟩ := List.getElem_of_mem hx
    have := h y hy
    simpa [List.getD, List.getElem?_eq_getElem hy] using this
theorem inB_bad {n : Nat} {l : List Int} {y : Nat} (hy : y < l.length) (h : l.getD y 0 < 0 ∨ n ≤ l.getD y 0) : inB n l = false := by
  rw [← Bool.not_eq_true]
  intro hr
  have := inB_iff.1 hr y hy
  omega
set_option maxHeartbeats 400000 in
theorem in14_any (B : Nat) (w : World) (a : Option Addr) (n cap : Nat) (v : Value) (l : List Int) (hn : n ≤ 9223372036854775807) (h : Row B w v (ints l)) :
    Calls Tryd.prog 69 #[.slice a n cap, v] w fun e w' => e = .returned (.bool (inB n l)) ∧ w = w' := by
  by_cases h0 : 0 < l.length
  · obtain ⟨b, off, c, rfl, _, hc1, hc2, hra⟩ := h.some_ (by rw [ints_length]; exact h0)
    rw [ints_length] at *
    have hmx : c ≤ 9223372036854775807 := by unfold maxLen at hc2; omega
    have RA := Lib.hid hra; clear hra h
    go_enter Tryd.func69, Tryd.ntmps69
    go_wp2
    go_loopg [9] l.length (fun g i wr => ∃ k : Nat, g + k = l.length ∧ i = .int .i64 k ∧ EntsOk n l k ∧ w = wr)
    case atStart => exact ⟨0, rfl, rfl, fun x hx => absurd hx (by omega), rfl⟩
    case round =>
      obtain ⟨y, hg, rfl, hok, rfl⟩ := hrel
      have OKY := Lib.hid hok; have HG2 := Lib.hid hg; clear hok hg
      by_cases hy : y < l.length
      · have hcy := RA.out.int y hy
        obtain ⟨z, hz⟩ : ∃ z, z = l.getD y 0 := ⟨_, rfl⟩
        rw [← hz] at hcy
        have HZ := Lib.hid hz; clear hz
        by_cases hb1 : z < 0
        · go_wp2
          go_ret
          exact ⟨ret_bool (inB_bad hy (by rw [← HZ.out]; exact .inl hb1)).symm, rfl⟩
        · by_cases hb2 : (n : Int) ≤ z
          · go_wp2
            go_ret
            exact ⟨ret_bool (inB_bad hy (by rw [← HZ.out]; exact .inr hb2)).symm, rfl⟩
          · go_wp2
            go_roundg (l.length - (y + 1))
            case measure => have := HG2.out; omega
            case rel =>
              refine ⟨y + 1, by omega, by go_num, fun x hx => ?_, rfl⟩
              rcases Nat.lt_succ_iff_lt_or_eq.1 hx with hx | rfl
              · exact OKY.out x hx
              · rw [← HZ.out]; omega
      · go_wp2
        go_ret
        exact ⟨ret_bool (inB_iff.2 (fun x hx => OKY.out x (by omega))).symm, rfl⟩
  · have hl : l = [] := List.eq_nil_of_length_eq_zero (by omega)
    subst hl
    obtain ⟨a', c, rfl⟩ := h.nil_ rfl
    clear h h0
    go_enter Tryd.func69, Tryd.ntmps69
    go_wp2
    refine wp_loop_rounds 1 ?_
    rw [rounds_succ]
    go_wp2
    go_ret
    exact ⟨rfl, rfl⟩
end Go.Proofs.YtdjhoadoiknaoaaDoor
