/- Part 8 of the proof: Assoc, Ref40a, Light. -/
import Derived.Test.YtdjhoadoiknaoaaDoorSp7
set_option linter.unusedVariables false
set_option linter.unusedSimpArgs false
namespace Go.Proofs.YtdjhoadoiknaoaaDoor
open Go.RowKit
def assAt (t : List (List Int)) (x y z : Nat) : Prop := entN t (entN t x y) z = entN t x (entN t y z)
theorem assoc_of_all {t : List (List Int)} (h : ∀ x, x < t.length → ∀ y, y < t.length → ∀ z, z < t.length → assAt t x y z) : Assoc t := fun g hg x y hx hy => h x hx g hg y hy
theorem not_assoc {t : List (List Int)} {x y z : Nat} (hx : x < t.length) (hy : y < t.length) (hz : z < t.length) (h : ¬ assAt t x y z) : ¬ Assoc t := fun ha => h (ha y hy x z hx hz)
def Assoced (w : World) (t : List (List Int)) (e : Ending) (w' : World) : Prop := ∃ x y z : Int, e = .returned (.tuple #[.int .i64 x, .int .i64 y, .int .i64 z, .int .i64 (validE t)]) ∧ ∃ m, w' = w.drewN m
def DoneX (t : List (List Int)) (k : Nat) : Prop := ∀ x, x < k → ∀ y, y < t.length → ∀ z, z < t.length → assAt t x y z
def DoneY (t : List (List Int)) (x k : Nat) : Prop := ∀ y, y < k → ∀ z, z < t.length → assAt t x y z
def DoneZ (t : List (List Int)) (x y k : Nat) : Prop := ∀ z, z < k → assAt t x y z
theorem Assoced.mk {w : World} {t : List (List Int)} {x y z c : Int} {m : Nat} (h : c = validE t) : Assoced w t (.returned (.tuple #[.int .i64 x, .int .i64 y, .int .i64 z, .int .i64 c])) (w.drewN m) := ⟨x, y, z, by rw [h], m, rfl⟩
theorem Assoced.mk0 {w : World} {t : List (List Int)} {x y z c : Int} (h : c = validE t) : Assoced w t (.returned (.tuple #[.int .i64 x, .int .i64 y, .int .i64 z, .int .i64 c])) w := ⟨x, y, z, by rw [h], 0, rfl⟩
set_option maxRecDepth 100000 in
set_option maxHeartbeats 800000 in
theorem associative_any (B : Nat) (w : World) (v : Value) (t : List (List Int)) (h : Mat B w v t) :
    Calls Tryd.prog 113 #[v] w (Assoced w t) := by
  by_cases hE : shapeE t = 0
  · have hs := shape_of hE
    obtain ⟨b, off, cap, RB, RO, RC, rfl, hc1, hc2, hq⟩ := h.sq hs
    have hmx : cap ≤ 9223372036854775807 := by unfold maxLen at hc2; omega
    have HE := Lib.hid hE; have HS := Lib.hid hs; have HQ := Lib.hid hq; have H0 := Lib.hid h
    clear hE hs hq h
    go_enter Tryd.func113, Tryd.ntmps113
    go_wp2_with fail
    refine (shape14_any B w _ t H0.out).mono ?_
    rintro e w' ⟨rfl, rfl⟩
    rw [HE.out]
    go_wp2
    go_loopg [17] t.length (fun g i wr => ∃ k m : Nat, g + k = t.length ∧ i = .int .i64 k ∧ DoneX t k ∧ wr = w.drewN m)
    case atStart => exact ⟨0, 0, rfl, rfl, fun x hx => absurd hx (by omega), rfl⟩
    case round =>
      obtain ⟨x, m, hg, rfl, hok, rfl⟩ := hrel
      have OK := Lib.hid hok; have HG := Lib.hid hg; clear hok hg
      by_cases hx : x < t.length
      · have hx' : (x : Int) < t.length := by omega
        have hxc := HQ.out.hd x hx
        go_wp2
        go_loopg [22] t.length (fun g i wr => ∃ k m : Nat, g + k = t.length ∧ i = .int .i64 k ∧ DoneY t x k ∧ wr = w.drewN m)
        case atStart => exact ⟨0, m, rfl, rfl, fun x hx => absurd hx (by omega), rfl⟩
        case round =>
          obtain ⟨y, m, hg, rfl, hok, rfl⟩ := hrel
          have OKY := Lib.hid hok; have HGY := Lib.hid hg; clear hok hg
          by_cases hy : y < t.length
          · have hy' : (y : Int) < t.length := by omega
            have hyc := HQ.out.hd y hy
            have hxy := HQ.out.el x y hx hy
            obtain ⟨p, hp⟩ : ∃ p, p = entN t x y := ⟨_, rfl⟩
            have hpl : p < t.length := by rw [hp]; exact entN_lt HS.out hx hy
            have hpl' : (p : Int) < t.length := by omega
            have hpc := HQ.out.hd p hpl
            rw [← hp] at hxy
            have HP := Lib.hid hp; clear hp
            go_wp2
            go_loopg [27] t.length (fun g i wr => ∃ k m : Nat, g + k = t.length ∧ i = .int .i64 k ∧ DoneZ t x y k ∧ wr = w.drewN m)
            case atStart => exact ⟨0, m, rfl, rfl, fun x hx => absurd hx (by omega), rfl⟩
            case round =>
              obtain ⟨z, m, hg, rfl, hok, rfl⟩ := hrel
              have OKZ := Lib.hid hok; have HGZ := Lib.hid hg; clear hok hg
              by_cases hz : z < t.length
              · have hz' : (z : Int) < t.length := by omega
                have hyz := HQ.out.el y z hy hz
                have hpz := HQ.out.el p z hpl hz
                obtain ⟨q, hq⟩ : ∃ q, q = entN t y z := ⟨_, rfl⟩
                have hql : q < t.length := by rw [hq]; exact entN_lt HS.out hy hz
                have hql' : (q : Int) < t.length := by omega
                rw [← hq] at hyz
                have hxq := HQ.out.el x q hx hql
                obtain ⟨r, hr⟩ : ∃ r, r = entN t p z := ⟨_, rfl⟩
                obtain ⟨s, hs⟩ : ∃ s, s = entN t x q := ⟨_, rfl⟩
                rw [← hr] at hpz
                rw [← hs] at hxq
                have hass : assAt t x y z ↔ r = s := by rw [assAt, ← HP.out, ← hq, ← hr, ← hs]
                have HA := Lib.hid hass
                clear hq hr hs hass
                by_cases hrs : r = s
                · subst hrs
                  have ht : ((r : Int) != (r : Int)) = false := by simp
                  go_wp2
                  go_quiet (fail)
                  go_wp2
                  go_roundg (t.length - (z + 1))
                  case measure => have := HGZ.out; omega
                  case rel =>
                    refine ⟨z + 1, _, by omega, by go_num, fun z' hz' => ?_, rfl⟩
                    rcases Nat.lt_succ_iff_lt_or_eq.1 hz' with hz' | rfl
                    · exact OKZ.out z' hz'
                    · exact HA.out.2 (by simp)
                · have ht : ((r : Int) != (s : Int)) = true := by rw [bne_iff_ne]; omega
                  have HRS := Lib.hid hrs; clear hrs
                  go_wp2
                  go_quiet (fail)
                  go_wp2
                  refine bodyPost_ret (v := .tuple #[.int .i64 x, .int .i64 y, .int .i64 z, .int .i64 5]) (by simp [results, Tryd.results113, go_sem]) rfl ?_
                  rw [World.drewN_drewN]
                  exact Assoced.mk (validE_not HE.out (not_assoc hx hy hz (fun h => HRS.out (HA.out.1 h)))).symm
              · go_wp2
                go_roundg (t.length - (y + 1))
                case measure => have := HGY.out; omega
                case rel =>
                  refine ⟨y + 1, m, by omega, by go_num, fun y' hy' => ?_, rfl⟩
                  rcases Nat.lt_succ_iff_lt_or_eq.1 hy' with hy' | rfl
                  · exact OKY.out y' hy'
                  · exact fun z' hz' => OKZ.out z' (by omega)
          · go_wp2
            go_roundg (t.length - (x + 1))
            case measure => have := HG.out; omega
            case rel =>
              refine ⟨x + 1, m, by omega, by go_num, fun x' hx' => ?_, rfl⟩
              rcases Nat.lt_succ_iff_lt_or_eq.1 hx' with hx' | rfl
              · exact OK.out x' hx'
              · exact fun y' hy' => OKY.out y' (by omega)
      · go_wp2
        refine bodyPost_ret (v := .tuple #[.int .i64 0, .int .i64 0, .int .i64 0, .int .i64 0]) (by simp [results, Tryd.results113, go_sem]) rfl ?_
        exact Assoced.mk (validE_assoc HE.out (assoc_of_all (fun x' hx' => OK.out x' (by omega)))).symm
  · have hb : (shapeE t != 0) = true := by rw [bne_iff_ne]; exact hE
    have HE := Lib.hid hE; clear hE
    go_enter Tryd.func113, Tryd.ntmps113
    go_wp2_with fail
    refine (shape14_any B w v t h).mono ?_
    rintro e w' ⟨rfl, rfl⟩
    go_wp2
    refine bodyPost_ret (v := .tuple #[.int .i64 0, .int .i64 0, .int .i64 0, .int .i64 (shapeE t)]) (by simp [results, Tryd.results113, go_sem]) rfl ?_
    exact Assoced.mk0 (validE_shape HE.out).symm
theorem validate14_any (B : Nat) (w : World) (v : Value) (t : List (List Int)) (h : Mat B w v t) :
    Calls Tryd.prog 95 #[v] w fun e w' => e = .returned (.int .i64 (validE t)) ∧ ∃ m, w' = w.drewN m := by
  go_enter Tryd.func95, Tryd.ntmps95
  go_wp2_with fail
  refine (associative_any B w v t h).mono ?_
  rintro e w' ⟨x, y, z, rfl, m, rfl⟩
  go_wp2
  go_ret
  exact ⟨rfl, m, rfl⟩
def idAt (t : List (List Int)) (e x : Nat) : Bool := entN t e x == x && entN t x e == x
def isId (t : List (List Int)) (e : Nat) : Bool := (List.range t.length).all (idAt t e)
def identI (t : List (List Int)) : Int := match (List.range t.length).find? (isId t) with
  | some e => e
  | none => -1
theorem find_range {p : Nat → Bool} {n e : Nat} (he : e < n) (hp : p e = true) (hb : ∀ x, x < e → p x = false) : (List.range n).find? p = some e := by
  rw [List.find?_eq_some_iff_getElem]
  refine ⟨hp, e, by simpa using he, by simp, fun j hj => by simp [hb j hj]⟩
theorem identI_some {t : List (List Int)} {e : Nat} (he : e < t.length) (hp : isId t e = true) (hb : ∀ x, x < e → isId t x = false) : identI t = e := by rw [identI, find_range he hp hb]
theorem identI_none {t : List (List Int)} (hb : ∀ x, x < t.length → isId t x = false) : identI t = -1 := by
  have : (List.range t.length).find? (isId t) = none := by
    rw [List.find?_eq_none]; intro x hx; rw [hb x (by simpa using hx)]; simp
  rw [identI, this]
def NoId (t : List (List Int)) (k : Nat) : Prop := ∀ x, x < k → isId t x = false
def inB (n : Nat) (l : List Int) : Bool := l.all fun x => decide (0 ≤ x ∧ x < n)
theorem inB_iff {n : Nat} {l : List Int} : inB n l = true ↔ ∀ y, y < l.length → 0 ≤ l.getD y 0 ∧ l.getD y 0 < n := by
  simp only [inB, List.all_eq_true, decide_eq_true_eq]
  refine ⟨fun h y hy => ?_, fun h x hx => ?_⟩
  · have := h (l[y]) (List.getElem_mem hy)
    simpa [List.getD, List.getElem?_eq_getElem hy] using this
  · obtain ⟨y, hy, rfl⟩ := List.getElem_of_mem hx
    have := h y hy
    simpa [List.getD, List.getElem?_eq_getElem hy] using this
theorem inB_bad {n : Nat} {l : List Int} {y : Nat} (hy : y < l.length) (h : l.getD y 0 < 0 ∨ n ≤ l.getD y 0) : inB n l = false := by
  rw [← Bool.not_eq_true]
  intro hr
  have := inB_iff.1 hr y hy
  omega
end Go.Proofs.YtdjhoadoiknaoaaDoor

namespace Go.Proofs.YtdjhoadoiknaoaaDoor
open Go.RowKit
def PB (n : Nat) (tb : Nat → Nat → Nat) (a b k j s : Nat) : Prop :=
  ∀ z, s.testBit z = true ↔ (∃ x y, x < k ∧ y < n ∧ a.testBit x = true ∧ b.testBit y = true ∧ tb x y = z) ∨ (∃ y, y < j ∧ a.testBit k = true ∧ b.testBit y = true ∧ tb k y = z)
theorem PB.skip {n : Nat} {tb : Nat → Nat → Nat} {a b k j s : Nat} (h : PB n tb a b k j s) (hb : ¬ (a.testBit k = true ∧ b.testBit j = true)) : PB n tb a b k (j + 1) s := by
  intro z
  rw [h z]
  refine or_congr_right ⟨fun ⟨y, hy, h⟩ => ⟨y, by omega, h⟩, fun ⟨y, hy, h1, h2, h3⟩ => ?_⟩
  rcases Nat.lt_succ_iff_lt_or_eq.1 hy with hy | rfl
  · exact ⟨y, hy, h1, h2, h3⟩
  · exact absurd ⟨h1, h2⟩ hb
theorem PB.add {n : Nat} {tb : Nat → Nat → Nat} {a b k j s : Nat} (h : PB n tb a b k j s) (h1 : a.testBit k = true) (h2 : b.testBit j = true) : PB n tb a b k (j + 1) (s ||| 2 ^ tb k j) := by
  intro z
  rw [← Nat.one_shiftLeft, bit_or_one, Bool.or_eq_true, decide_eq_true_eq, h z]
  constructor
  · rintro ((h | ⟨y, hy, h⟩) | e)
    · exact .inl h
    · exact .inr ⟨y, by omega, h⟩
    · exact .inr ⟨j, by omega, h1, h2, e⟩
  · rintro (h | ⟨y, hy, h3, h4, h5⟩)
    · exact .inl (.inl h)
    · rcases Nat.lt_succ_iff_lt_or_eq.1 hy with hy | rfl
      · exact .inl (.inr ⟨y, hy, h3, h4, h5⟩)
      · exact .inr h5
theorem PB.next {n : Nat} {tb : Nat → Nat → Nat} {a b k s : Nat} (h : PB n tb a b k n s) : PB n tb a b (k + 1) 0 s := by
  intro z
  rw [h z]
  constructor
  · rintro (⟨x, y, hx, h⟩ | ⟨y, hy, h1, h2, h3⟩)
    · exact .inl ⟨x, y, by omega, h⟩
    · exact .inl ⟨k, y, by omega, hy, h1, h2, h3⟩
  · rintro (⟨x, y, hx, h1, h2, h3, h4⟩ | ⟨y, hy, _⟩)
    · rcases Nat.lt_succ_iff_lt_or_eq.1 hx with hx | rfl
      · exact .inl ⟨x, y, hx, h1, h2, h3, h4⟩
      · exact .inr ⟨y, h1, h2, h3, h4⟩
    · omega
theorem PB.start {n : Nat} {tb : Nat → Nat → Nat} {a b : Nat} : PB n tb a b 0 0 0 := by
  intro z
  simp
theorem PB.end_ {n : Nat} {tb : Nat → Nat → Nat} {a b s : Nat} (h : PB n tb a b n 0 s) : s = prodSet n tb a b := by
  refine eq_prodSet fun z => ?_
  rw [h z]
  constructor
  · rintro (⟨x, y, h⟩ | ⟨y, hy, _⟩)
    · exact ⟨x, y, h⟩
    · omega
  · rintro ⟨x, y, h⟩
    exact .inl ⟨x, y, h⟩
set_option maxRecDepth 100000 in
set_option maxHeartbeats 1000000 in
theorem prod40_any (B : Nat) (w : World) (v : Value) (t : List (List Int)) (a b : Nat) (h : Mat B w v t) (hs : Shape t) (hn : t.length ≤ 12) (ha : a < 2 ^ t.length) (hb : b < 2 ^ t.length) :
    Calls Tryd.prog 55 #[v, .int .i64 (a : Int), .int .i64 (b : Int)] w fun e w' => e = .returned (.int .i64 (prodSet t.length (entN t) a b : Nat)) ∧ w = w' := by
  obtain ⟨tb_, off, cap, RB, RO, RC, rfl, hc1, hc2, hq⟩ := h.sq hs
  have hmx : cap ≤ 9223372036854775807 := by unfold maxLen at hc2; omega
  obtain ⟨N, hN⟩ : ∃ N, N = 2 ^ t.length := ⟨_, rfl⟩
  have hN4 : N ≤ 4096 := by have := pow_le hn; omega
  have ha63 : a < 9223372036854775808 := by omega
  have hb63 : b < 9223372036854775808 := by omega
  have HQ := Lib.hid hq; have HS := Lib.hid hs; have HN := Lib.hid hN
  clear hs hq h hN ha hb
  go_enter Tryd.func55, Tryd.ntmps55
  go_wp2
  go_loopg [7, 12] t.length (fun g sv i wr => ∃ k s : Nat, g + k = t.length ∧ i = .int .i64 k ∧ sv = .int .i64 s ∧ s < N ∧ Hid (PB t.length (entN t) a b k 0 s) ∧ w = wr)
  case atStart => exact ⟨0, 0, rfl, rfl, rfl, by rw [HN.out]; exact Nat.two_pow_pos _, Lib.hid PB.start, rfl⟩
  case round =>
    obtain ⟨k, s, hg, rfl, rfl, hs, hpb, rfl⟩ := hrel
    have HG := Lib.hid hg; clear hg
    by_cases hk : k < t.length
    · have hk' : (k : Int) < t.length := by omega
      have ck := HQ.out.hd k hk
      go_wp2
      go_loopg [7, 17] t.length (fun g sv i wr => ∃ j s : Nat, g + j = t.length ∧ i = .int .i64 j ∧ sv = .int .i64 s ∧ s < N ∧ Hid (PB t.length (entN t) a b k j s) ∧ w = wr)
      case atStart => exact ⟨0, s, rfl, rfl, rfl, hs, hpb, rfl⟩
      case round =>
        clear hs hpb
        obtain ⟨j, s, hg, rfl, rfl, hs, hpb, rfl⟩ := hrel
        have HGJ := Lib.hid hg; clear hg
        by_cases hj : j < t.length
        · have hj' : (j : Int) < t.length := by omega
          cases hba : a.testBit k
          · have e1 := bit_zero ha63 hba
            have hpb2 := Lib.hid (hpb.out.skip (by rw [hba]; simp))
            have HBA := Lib.hid hba
            clear hba
            go_wp2
            go_roundg (t.length - (j + 1))
            case measure => have := HGJ.out; omega
            case rel => exact ⟨j + 1, s, by omega, by go_num, rfl, hs, hpb2, rfl⟩
          · have e1 := bit_one ha63 hba
            cases hbb : b.testBit j
            · have e2 := bit_zero hb63 hbb
              have hpb2 := Lib.hid (hpb.out.skip (by rw [hbb]; simp))
              have HBA := Lib.hid hba; have HBB := Lib.hid hbb
              clear hba hbb
              go_wp2
              go_roundg (t.length - (j + 1))
              case measure => have := HGJ.out; omega
              case rel => exact ⟨j + 1, s, by omega, by go_num, rfl, hs, hpb2, rfl⟩
            · have e2 := bit_one hb63 hbb
              have hpb2 := Lib.hid (hpb.out.add hba hbb)
              have cj := HQ.out.el k j hk hj
              obtain ⟨m, hm⟩ : ∃ m, m = entN t k j := ⟨_, rfl⟩
              have hml : m < t.length := by rw [hm]; exact entN_lt HS.out hk hj
              rw [← hm] at cj hpb2
              have hsx := shl_eq (m := m) (by omega)
              have hor := or_one_lt (show s < 2 ^ t.length by rw [← HN.out]; exact hs) hml
              rw [Nat.one_shiftLeft, ← HN.out] at hor
              obtain ⟨M, hM⟩ : ∃ M, M = 2 ^ m := ⟨_, rfl⟩
              rw [← hM] at hsx hor hpb2
              have hM4 : M ≤ 4096 := by rw [hM]; have := pow_le (show m ≤ 12 by omega); omega
              have e4 : bits .or .i64 (s : Int) (M : Int) = ((s ||| M : Nat) : Int) := i64_or_nat s M (by omega) (by omega)
              have HBA := Lib.hid hba; have HBB := Lib.hid hbb
              clear hba hbb hm hM
              go_wp2
              go_roundg (t.length - (j + 1))
              case measure => have := HGJ.out; omega
              case rel => exact ⟨j + 1, s ||| M, by omega, by go_num, rfl, hor, hpb2, rfl⟩
        · have hpb2 : Hid (PB t.length (entN t) a b (k + 1) 0 s) := by
            have hjn : j = t.length := by have := HGJ.out; omega
            have := hpb.out
            rw [hjn] at this
            exact Lib.hid this.next
          go_wp2
          go_roundg (t.length - (k + 1))
          case measure => have := HG.out; omega
          case rel => exact ⟨k + 1, s, by omega, by go_num, rfl, hs, hpb2, rfl⟩
    · have he : Hid (s = prodSet t.length (entN t) a b) := by
        have hkn : k = t.length := by have := HG.out; omega
        have := hpb.out
        rw [hkn] at this
        exact Lib.hid this.end_
      go_wp2
      go_ret
      exact ⟨ret_int (by rw [← he.out]), rfl⟩
set_option maxRecDepth 100000 in
theorem omega40_any (B : Nat) (w : World) (v : Value) (t : List (List Int)) (a : Nat) (h : Mat B w v t) (hv : validE t = 0) (hn : t.length ≤ 12) (ha : a < 2 ^ t.length) :
    Calls Tryd.prog 57 #[v, .int .i64 (a : Int)] w fun e w' => e = .returned (.int .i64 (omegaSet t.length (entN t) a : Nat)) ∧ w = w' := by
  have hs := (valid_of hv).1
  have ht := tb_of hv
  obtain ⟨N, hN⟩ : ∃ N, N = 2 ^ t.length := ⟨_, rfl⟩
  have hN4 : N ≤ 4096 := by have := pow_le hn; omega
  obtain ⟨O, hO⟩ : ∃ O, O = omegaSet t.length (entN t) a := ⟨_, rfl⟩
  rw [← hO]
  have H := Lib.hid h; have HS := Lib.hid hs; have HN := Lib.hid hN; have HTB := Lib.hid ht; have HO := Lib.hid hO; have HA := Lib.hid ha
  have haN : a < N := by omega
  clear h hs hN ht hO ha hv
  go_enter Tryd.func57, Tryd.ntmps57
  go_wp2
  go_loopg [5] (2 ^ t.length * 2 ^ t.length + 2 ^ t.length) (fun g xv wr => ∃ x : Nat, xv = .int .i64 x ∧ x < N ∧ Hid (Ends t.length (entN t) a g x) ∧ Hid (omegaGo t.length (entN t) a g x = O) ∧ w = wr)
  case atStart => exact ⟨a, rfl, haN, Lib.hid (ends_start HTB.out HA.out), Lib.hid HO.out.symm, rfl⟩
  case round =>
    obtain ⟨x, rfl, hx, hends, hgo, rfl⟩ := hrel
    have hx2 : x < 2 ^ t.length := by rw [← HN.out]; exact hx
    have HP1 := Lib.hid (prod40_any B w v t x x H.out HS.out hn hx2 hx2)
    have HP2 := Lib.hid (prod40_any B w v t x a H.out HS.out hn hx2 HA.out)
    obtain ⟨Y, hY⟩ : ∃ Y, Y = prodSet t.length (entN t) x a := ⟨_, rfl⟩
    obtain ⟨X, hX⟩ : ∃ X, X = prodSet t.length (entN t) x x := ⟨_, rfl⟩
    have hYN : Y < N := by rw [hY, HN.out]; exact prodSet_lt HTB.out.lt _ _
    rw [← hX] at HP1
    rw [← hY] at HP2
    have HX := Lib.hid hX; have HY := Lib.hid hY
    clear hX hY hx2
    by_cases hid : X = x
    · have ht : ((X : Int) != (x : Int)) = false := by rw [hid]; simp
      have HI := Lib.hid hid
      have e4 : bits .or .i64 (x : Int) (Y : Int) = ((x ||| Y : Nat) : Int) := i64_or_nat x Y (by omega) (by omega)
      have hstop : x ||| Y = O := by
        have h1 := hgo.out
        rw [omegaGo_stop (by rw [← HX.out]; exact hid)] at h1
        rw [HY.out]; exact h1
      rw [hstop] at e4
      clear hid hstop
      go_wp2_with fail
      refine HP1.out.mono ?_
      rintro e w' ⟨rfl, rfl⟩
      go_wp2_with fail
      refine HP2.out.mono ?_
      rintro e w' ⟨rfl, rfl⟩
      go_wp2
      go_ret
      exact ⟨rfl, rfl⟩
    · have ht : ((X : Int) != (x : Int)) = true := by rw [bne_iff_ne]; omega
      have HI := Lib.hid hid
      clear hid
      go_wp2_with fail
      refine HP1.out.mono ?_
      rintro e w' ⟨rfl, rfl⟩
      go_wp2_with fail
      refine HP2.out.mono ?_
      rintro e w' ⟨rfl, rfl⟩
      obtain ⟨j, hj, he⟩ := ends_step hends.out (by rw [← HX.out]; exact HI.out)
      have hgo2 := hgo.out
      rw [hj, omegaGo_step (by rw [← HX.out]; exact HI.out), ← HY.out] at hgo2
      rw [← HY.out] at he
      have HJ := Lib.hid hj; have HE := Lib.hid he; have HG := Lib.hid hgo2
      clear hj he hgo2
      go_wp2
      go_roundg j
      case measure => have := HJ.out; omega
      case rel => exact ⟨Y, rfl, hYN, HE, HG, rfl⟩
def setB (n : Nat) (s : Int) : Bool := decide (0 ≤ s ∧ s < (2 ^ n : Nat))
theorem isSet_any (w : World) (a : Option Addr) (n cap : Nat) (s : Int) (hn : n ≤ 12) :
    Calls Tryd.prog 66 #[.slice a n cap, .int .i64 s] w fun e w' => e = .returned (.bool (setB n s)) ∧ w = w' := by
  have hsh := shl_eq (m := n) (by omega)
  unfold setB
  obtain ⟨N, hN⟩ : ∃ N, N = 2 ^ n := ⟨_, rfl⟩
  rw [← hN] at hsh ⊢
  have HN := Lib.hid hN
  clear hN
  by_cases h0 : 0 ≤ s
  · go_enter Tryd.func66, Tryd.ntmps66
    go_wp2
    go_ret
    exact ⟨ret_bool (by simp [h0]), rfl⟩
  · go_enter Tryd.func66, Tryd.ntmps66
    go_wp2
    go_ret
    exact ⟨ret_bool (by simp; omega), rfl⟩
end Go.Proofs.YtdjhoadoiknaoaaDoor

namespace Go.Proofs.YtdjhoadoiknaoaaDoor
open Go.RowKit
def LightAll (t : List (List Int)) (gs : List Nat) : Prop := ∀ g ∈ gs, lightAt t g
open Classical in
noncomputable def lightB (t : List (List Int)) (gs : List Nat) : Bool := decide (LightAll t gs)
theorem lightB_true {t : List (List Int)} {gs : List Nat} (h : LightAll t gs) : lightB t gs = true := by simp [lightB, h]
theorem lightB_false {t : List (List Int)} {gs : List Nat} {k : Nat} (hk : k < gs.length) (h : ¬ lightAt t (gs.getD k 0)) : lightB t gs = false := by
  simp only [lightB, decide_eq_false_iff_not]
  intro ha
  refine h (ha _ ?_)
  simp only [List.getD, List.getElem?_eq_getElem hk]
  exact List.getElem_mem hk
def TriedOk (t : List (List Int)) (bs : List Bool) : Prop := ∀ x, bs.getD x false = true → lightAt t x
def GensOk (t : List (List Int)) (gs : List Nat) (k : Nat) : Prop := ∀ i, i < k → lightAt t (gs.getD i 0)
def LRows (t : List (List Int)) (g k : Nat) : Prop := ∀ x, x < k → ∀ y, y < t.length → assAt t x g y
def LCols (t : List (List Int)) (x g k : Nat) : Prop := ∀ y, y < k → assAt t x g y
theorem gens_all {t : List (List Int)} {gs : List Nat} (h : GensOk t gs gs.length) : LightAll t gs := by
  intro g hg
  obtain ⟨i, hi, rfl⟩ := List.getElem_of_mem hg
  have := h i hi
  simpa [List.getD, List.getElem?_eq_getElem hi] using this
set_option maxRecDepth 100000 in
set_option maxHeartbeats 1000000 in
theorem associates_any (B : Nat) (w : World) (v gv : Value) (t : List (List Int)) (gs : List Nat) (hB : B ≤ w.heap.size) (h : Mat B w v t) (hs : Shape t) (hg : Row B w gv (nats gs)) (hgl : ∀ g ∈ gs, g < t.length) :
    Calls Tryd.prog 93 #[v, gv] w fun e w' => e = .returned (.bool (lightB t gs)) ∧ w.grownBy w' none := by
  obtain ⟨b, off, cap, RB, RO, RC, rfl, hc1, hc2, hq⟩ := h.sq hs
  have hmx : cap ≤ 9223372036854775807 := by unfold maxLen at hc2; omega
  have hgm := hg.len_le
  rw [nats_length] at hgm
  unfold maxLen at hgm
  obtain ⟨ga, gc, rfl⟩ := hg.shape
  rw [nats_length]
  have hpos := hs.pos
  have hle := hs.le
  have HQ := Lib.hid hq; have HS := Lib.hid hs; have HGR := Lib.hid hg; have HGL := Lib.hid hgl
  clear hq hs h hg hgl
  go_enter Tryd.func93, Tryd.ntmps93
  go_wp2_with (at_make; refine make1 rfl _ _ _ rfl elem_bool rfl _ _ _ _ t.length rfl rfl rfl rfl ?b1 ?b2 ?_; (case b1 => omega); (case b2 => (unfold maxLen; omega)); intro w1 ha1 hg1 hz1)
  rw [← bls_replicate] at ha1
  have HA1 := Lib.hid ha1; clear ha1
  go_loopg [18] gs.length (fun g i wr => ∃ (k : Nat) (bs : List Bool), g + k = gs.length ∧ i = .int .i64 k ∧ bs.length = t.length ∧ Arr wr w.heap.size 4 (bls bs) ∧ w.grownBy wr none ∧ TriedOk t bs ∧ GensOk t gs k)
  case atStart =>
    refine ⟨0, _, rfl, rfl, by simp, HA1.out, hg1, fun x hx => ?_, fun i hi => absurd hi (by omega)⟩
    exfalso
    simp [List.getD, List.getElem?_replicate] at hx
    split at hx <;> simp at hx
  case round =>
    clear HA1 hg1 hz1
    obtain ⟨k, bs, hgk, rfl, hbl, harr, hgr, htr, hgo⟩ := hrel
    have HGK := Lib.hid hgk; have HBL := Lib.hid hbl; have HARR := Lib.hid harr; have HTR := Lib.hid htr; have HGO := Lib.hid hgo
    have hszr := harr.lt
    clear hgk hbl harr htr hgo
    by_cases hk : k < gs.length
    · have hk' : (k : Int) < gs.length := by omega
      obtain ⟨gb, go, gcap, e, _, _, _, hra⟩ := HGR.out.some_ (by rw [nats_length]; omega)
      simp only [Value.slice.injEq] at e
      obtain ⟨rfl, -, -⟩ := e
      have HGW := HGR.out.kept hgr (by simp)
      obtain ⟨gb', go', gcap', e, _, _, _, hra⟩ := HGW.some_ (by rw [nats_length]; omega)
      simp only [Value.slice.injEq, Option.some.injEq, Addr.mk.injEq, and_true] at e
      obtain ⟨⟨rfl, rfl⟩, -, -⟩ := e
      have hgc := hra.nat k hk
      have hxl := getD_lt HGL.out hk
      obtain ⟨x, hx⟩ : ∃ x, x = gs.getD k 0 := ⟨_, rfl⟩
      rw [← hx] at hgc hxl
      have hxl' : (x : Int) < t.length := by omega
      have hbx := HARR.out.bool x (by rw [HBL.out]; exact hxl)
      have hfx := HARR.out.frozen x
      have HX := Lib.hid hx
      clear hra hx HGW
      cases hbv : bs.getD x false
      · rw [hbv] at hbx
        have hset := HARR.out.bool_set x (by rw [HBL.out]; exact hxl) true
        have hgs1 := grownBy_setCell wr ⟨w.heap.size, x, none⟩ (.bool true)
        have HBV := Lib.hid hbv; clear hbv
        go_wp2
        generalize hW : wr.setCell ⟨w.heap.size, x, none⟩ (.bool true) = w2 at hset hgs1
        have hgw2 : w.grownBy w2 none := grown_far hgr hgs1 (by simp)
        have HQ2 := Lib.hid (HQ.out.kept hgw2 (by simp))
        have HSET := Lib.hid hset
        have HW := Lib.hid hW
        clear hset hgs1 hW hbx hfx hgc
        have hxc := HQ2.out.hd x hxl
        go_loopg [31] t.length (fun g i wr => ∃ k m : Nat, g + k = t.length ∧ i = .int .i64 k ∧ LRows t x k ∧ wr = w2.drewN m)
        case atStart => exact ⟨0, 0, rfl, rfl, fun x hx => absurd hx (by omega), rfl⟩
        case round =>
          obtain ⟨a, m, hga, rfl, hok, rfl⟩ := hrel
          have HGA := Lib.hid hga; have HOK := Lib.hid hok; clear hga hok
          by_cases ha : a < t.length
          · have ha' : (a : Int) < t.length := by omega
            have hac := HQ2.out.hd a ha
            have hax := HQ2.out.el a x ha hxl
            obtain ⟨p, hp⟩ : ∃ p, p = entN t a x := ⟨_, rfl⟩
            have hpl : p < t.length := by rw [hp]; exact entN_lt HS.out ha hxl
            have hpl' : (p : Int) < t.length := by omega
            rw [← hp] at hax
            have hpc := HQ2.out.hd p hpl
            have HP := Lib.hid hp; clear hp
            go_wp2
            go_loopg [47] t.length (fun g i wr => ∃ k m : Nat, g + k = t.length ∧ i = .int .i64 k ∧ LCols t a x k ∧ wr = w2.drewN m)
            case atStart => exact ⟨0, m, rfl, rfl, fun x hx => absurd hx (by omega), rfl⟩
            case round =>
              obtain ⟨y, m, hgy, rfl, hok, rfl⟩ := hrel
              have HGY := Lib.hid hgy; have HOY := Lib.hid hok; clear hgy hok
              by_cases hy : y < t.length
              · have hy' : (y : Int) < t.length := by omega
                have hxy := HQ2.out.el x y hxl hy
                have hpy := HQ2.out.el p y hpl hy
                obtain ⟨q, hq⟩ : ∃ q, q = entN t x y := ⟨_, rfl⟩
                have hql : q < t.length := by rw [hq]; exact entN_lt HS.out hxl hy
                have hql' : (q : Int) < t.length := by omega
                rw [← hq] at hxy
                have haq := HQ2.out.el a q ha hql
                obtain ⟨r, hr⟩ : ∃ r, r = entN t p y := ⟨_, rfl⟩
                obtain ⟨s, hs⟩ : ∃ s, s = entN t a q := ⟨_, rfl⟩
                rw [← hr] at hpy
                rw [← hs] at haq
                have hass : assAt t a x y ↔ r = s := by rw [assAt, ← HP.out, ← hq, ← hr, ← hs]
                have HA := Lib.hid hass
                clear hq hr hs hass
                by_cases hrs : r = s
                · subst hrs
                  have ht : ((r : Int) != (r : Int)) = false := by simp
                  go_wp2
                  go_quiet (fail)
                  go_wp2
                  go_roundg (t.length - (y + 1))
                  case measure => have := HGY.out; omega
                  case rel =>
                    refine ⟨y + 1, _, by omega, by go_num, fun z' hz' => ?_, rfl⟩
                    rcases Nat.lt_succ_iff_lt_or_eq.1 hz' with hz' | rfl
                    · exact HOY.out z' hz'
                    · exact HA.out.2 (by simp)
                · have ht : ((r : Int) != (s : Int)) = true := by rw [bne_iff_ne]; omega
                  have HRS := Lib.hid hrs; clear hrs
                  go_wp2
                  go_quiet (fail)
                  go_wp2
                  go_ret
                  refine ⟨ret_bool (lightB_false hk (fun hl => HRS.out (HA.out.1 ?_))).symm, grownBy_same hgw2 rfl rfl rfl rfl⟩
                  rw [← HX.out] at hl
                  exact hl a y ha hy
              · go_wp2
                go_roundg (t.length - (a + 1))
                case measure => have := HGA.out; omega
                case rel =>
                  refine ⟨a + 1, m, by omega, by go_num, fun y' hy' => ?_, rfl⟩
                  rcases Nat.lt_succ_iff_lt_or_eq.1 hy' with hy' | rfl
                  · exact HOK.out y' hy'
                  · exact fun z' hz' => HOY.out z' (by omega)
          · have hlight : Hid (lightAt t x) := Lib.hid (fun a' y' ha' hy' => HOK.out a' (by omega) y' hy')
            go_wp2
            go_roundg (gs.length - (k + 1))
            case measure => have := HGK.out; omega
            case rel =>
              refine ⟨k + 1, bs.set x true, by omega, by go_num, by rw [List.length_set]; exact HBL.out, HSET.out.of_heap rfl, grownBy_same hgw2 rfl rfl rfl rfl, fun y hy => ?_, fun i hi => ?_⟩
              · by_cases e : x = y
                · subst e; exact hlight.out
                · rw [getD_set_ne _ _ _ _ _ e] at hy
                  exact HTR.out y hy
              · rcases Nat.lt_succ_iff_lt_or_eq.1 hi with hi | rfl
                · exact HGO.out i hi
                · rw [← HX.out]; exact hlight.out
      · rw [hbv] at hbx
        have HBV := Lib.hid hbv; clear hbv
        go_wp2
        go_roundg (gs.length - (k + 1))
        case measure => have := HGK.out; omega
        case rel =>
          refine ⟨k + 1, bs, by omega, by go_num, HBL.out, HARR.out, hgr, HTR.out, fun i hi => ?_⟩
          rcases Nat.lt_succ_iff_lt_or_eq.1 hi with hi | rfl
          · exact HGO.out i hi
          · rw [← HX.out]; exact HTR.out x HBV.out
    · go_wp2
      go_ret
      refine ⟨ret_bool (lightB_true (gens_all ?_)).symm, hgr⟩
      have : k = gs.length := by have := HGK.out; omega
      rw [← this]; exact HGO.out
end Go.Proofs.YtdjhoadoiknaoaaDoor
