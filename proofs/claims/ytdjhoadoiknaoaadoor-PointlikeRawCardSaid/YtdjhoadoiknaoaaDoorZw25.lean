/- Part 25 of the proof: FamB, Sames. -/
import Derived.Test.YtdjhoadoiknaoaaDoorZw24
import Derived.BigQuiet
set_option linter.unusedVariables false
set_option linter.unusedSimpArgs false
namespace Go.Proofs.YtdjhoadoiknaoaaDoor
open Go.RowKit
def famAt (n : Nat) (zs : List Int) (i : Nat) : Bool := decide (zs.getD i 0 ≠ 0) && setB n (zs.getD i 0) && decide (i = 0 ∨ zs.getD (i - 1) 0 < zs.getD i 0)
theorem famAt_is {n : Nat} {zs : List Int} {i : Nat} {z u : Int} (hz : z = zs.getD i 0) (hu : u = zs.getD (i - 1) 0) : famAt n zs i = (decide (z ≠ 0) && setB n z && decide (i = 0 ∨ u < z)) := by subst hz; subst hu; rfl
def famTo (n : Nat) (zs : List Int) (k : Nat) : Bool := (List.range k).all (famAt n zs)
theorem famTo_succ (n : Nat) (zs : List Int) (k : Nat) : famTo n zs (k + 1) = (famTo n zs k && famAt n zs k) := by simp [famTo, List.range_succ]
theorem famTo_at {n : Nat} {zs : List Int} {k i : Nat} (h : famTo n zs k = true) (hi : i < k) : famAt n zs i = true := by
  simp only [famTo, List.all_eq_true] at h
  exact h i (List.mem_range.2 hi)
theorem famTo_no {n : Nat} {zs : List Int} {k i : Nat} (h : famAt n zs i = false) (hi : i < k) : famTo n zs k = false := by
  cases e : famTo n zs k with
  | false => rfl
  | true => rw [famTo_at e hi] at h; exact absurd h (by simp)
def natL (zs : List Int) : List Nat := zs.map Int.toNat
theorem natL_length (zs : List Int) : (natL zs).length = zs.length := by simp [natL]
theorem natL_getD (zs : List Int) (i : Nat) : (natL zs).getD i 0 = (zs.getD i 0).toNat := by
  simp only [natL, List.getD, List.getElem?_map]
  cases zs[i]? <;> rfl
theorem ints_natL {n : Nat} {zs : List Int} (h : famTo n zs zs.length = true) : ints zs = nats (natL zs) := by
  unfold ints nats natL
  rw [List.map_map]
  refine List.map_congr_left fun z hz => ?_
  obtain ⟨i, hi, rfl⟩ := List.getElem_of_mem hz
  have := famTo_at h hi
  simp only [famAt, setB, List.getD, List.getElem?_eq_getElem hi, Option.getD_some, Bool.and_eq_true, decide_eq_true_eq] at this
  simp only [Function.comp]
  congr 1
  omega
theorem natL_lt {n : Nat} {zs : List Int} (h : famTo n zs zs.length = true) : ∀ b ∈ natL zs, b < 2 ^ n := by
  intro b hb
  obtain ⟨z, hz, rfl⟩ := List.mem_map.1 hb
  obtain ⟨i, hi, rfl⟩ := List.getElem_of_mem hz
  have := famTo_at h hi
  simp only [famAt, setB, List.getD, List.getElem?_eq_getElem hi, Option.getD_some, Bool.and_eq_true, decide_eq_true_eq] at this
  omega
theorem natL_sorted {n : Nat} {zs : List Int} (h : famTo n zs zs.length = true) : (natL zs).Pairwise (· < ·) := by
  have step : ∀ i, i + 1 < zs.length → (natL zs).getD i 0 < (natL zs).getD (i + 1) 0 := by
    intro i hi
    rw [natL_getD, natL_getD]
    have h1 := famTo_at h hi
    have h2 := famTo_at h (i := i) (by omega)
    simp only [famAt, setB, Bool.and_eq_true, decide_eq_true_eq] at h1 h2
    have := h1.2
    simp only [Nat.add_sub_cancel] at this
    omega
  rw [List.pairwise_iff_getElem]
  have key : ∀ d i, i + d + 1 < zs.length → (natL zs).getD i 0 < (natL zs).getD (i + d + 1) 0 := by
    intro d
    induction d with
    | zero => intro i hi; exact step i hi
    | succ d ih => intro i hi; exact Nat.lt_trans (ih i (by omega)) (step (i + d + 1) (by omega))
  intro i j hi hj hij
  have := key (j - i - 1) i (by rw [natL_length] at hj; omega)
  rw [show i + (j - i - 1) + 1 = j from by omega] at this
  simpa [List.getD, List.getElem?_eq_getElem hi, List.getElem?_eq_getElem hj] using this
def famB (n : Nat) (zs : List Int) : Bool := decide (0 < zs.length) && famTo n zs zs.length && decide ((maxOf n (natL zs)).length = zs.length)
theorem sub_list : ∀ {m l : List Nat}, l.Pairwise (· < ·) → m.Pairwise (· < ·) → (∀ a ∈ l, a ∈ m) → l.Sublist m
  | [], l, _, _, hs => by
    cases l with
    | nil => exact List.Sublist.refl _
    | cons a l => exact absurd (hs a (by simp)) (by simp)
  | b :: m, [], _, _, _ => List.nil_sublist _
  | b :: m, a :: l, hl, hm, hs => by
    have hm' := List.pairwise_cons.1 hm
    have hl' := List.pairwise_cons.1 hl
    by_cases e : a = b
    · subst e
      refine (sub_list hl'.2 hm'.2 fun x hx => ?_).cons_cons a
      rcases List.mem_cons.1 (hs x (List.mem_cons_of_mem _ hx)) with rfl | h
      · exact absurd (hl'.1 x hx) (Nat.lt_irrefl _)
      · exact h
    · have ha : a ∈ m := by
        rcases List.mem_cons.1 (hs a (by simp)) with h | h
        · exact absurd h e
        · exact h
      have hab := hm'.1 a ha
      refine (sub_list hl hm'.2 fun x hx => ?_).cons b
      rcases List.mem_cons.1 (hs x hx) with rfl | h
      · rcases List.mem_cons.1 hx with rfl | hx
        · exact absurd rfl e
        · have := hl'.1 x hx; omega
      · exact h
theorem sub_eq {l m : List Nat} (hl : l.Pairwise (· < ·)) (hm : m.Pairwise (· < ·)) (hs : ∀ a ∈ l, a ∈ m) (hlen : l.length = m.length) : l = m := (sub_list hl hm hs).eq_of_length hlen
theorem famB_max {n : Nat} {zs : List Int} (h : famB n zs = true) : FamOk n (natL zs, false) ∧ 0 < (natL zs).length ∧ ints zs = nats (natL zs) := by
  simp only [famB, Bool.and_eq_true, decide_eq_true_eq] at h
  obtain ⟨⟨h1, h2⟩, h3⟩ := h
  refine ⟨⟨natL_lt h2, ?_⟩, by rw [natL_length]; exact h1, ints_natL h2⟩
  exact sub_eq (maxOf_sorted _ _) (natL_sorted h2) (fun a ha => maxOf_sub (natL_lt h2) ha) (by rw [h3, natL_length])
theorem famB_eq {n : Nat} {zs : List Int} (h0 : 0 < zs.length) (h : famTo n zs zs.length = true) : famB n zs = decide ((maxOf n (natL zs)).length = zs.length) := by
  simp [famB, h0, h]
theorem famB_no {n : Nat} {zs : List Int} (h : famTo n zs zs.length = false) : famB n zs = false := by simp [famB, h]
theorem famB_nil {n : Nat} {zs : List Int} (h : zs.length = 0) : famB n zs = false := by simp [famB, h]
end Go.Proofs.YtdjhoadoiknaoaaDoor
namespace Go.Proofs.YtdjhoadoiknaoaaDoor
open Go.RowKit
theorem take_succ_getD {xs : List Int} {k : Nat} (h : k < xs.length) : xs.take (k + 1) = xs.take k ++ [xs.getD k 0] := by
  rw [List.take_add_one]; simp [List.getD, h]
set_option maxHeartbeats 400000 in
theorem same40_any (B C : Nat) (w : World) (va vb : Value) (xs ys : List Int) (ha : Row B w va (ints xs)) (hb : Row C w vb (ints ys)) :
    Calls Tryd.prog 67 #[va, vb] w fun e w' => e = .returned (.bool (decide (xs = ys))) ∧ ∃ m, w' = w.drewN m := by
  have hxl := ha.len_le
  rw [ints_length] at hxl
  unfold maxLen at hxl
  have hyl := hb.len_le
  rw [ints_length] at hyl
  unfold maxLen at hyl
  obtain ⟨aa, ac, rfl⟩ := ha.shape
  obtain ⟨ba, bc, rfl⟩ := hb.shape
  rw [ints_length] at ha hb ⊢
  rw [ints_length]
  by_cases hl : xs.length = ys.length
  · by_cases h0 : xs.length = 0
    · have hx : xs = [] := List.eq_nil_of_length_eq_zero h0
      have hy : ys = [] := List.eq_nil_of_length_eq_zero (by omega)
      subst hx; subst hy
      clear ha hb
      go_enter Tryd.func67, Tryd.ntmps67
      go_wp2
      go_loopg [13] 0 (fun g i wr => i = .int .i64 0 ∧ wr = w)
      case atStart => exact ⟨rfl, rfl⟩
      case round =>
        obtain ⟨rfl, rfl⟩ := hrel
        go_wp2
        go_ret
        exact ⟨ret_bool rfl, 0, rfl⟩
    · obtain ⟨ab, ao, ac', e, _, _, _, hra⟩ := ha.some_ (by rw [ints_length]; omega)
      simp only [Value.slice.injEq] at e
      obtain ⟨rfl, -, -⟩ := e
      obtain ⟨bb, bo, bc', e, _, _, _, hrb⟩ := hb.some_ (by rw [ints_length]; omega)
      simp only [Value.slice.injEq] at e
      obtain ⟨rfl, -, -⟩ := e
      have RA := Lib.hid hra; have RB := Lib.hid hrb; have HL := Lib.hid hl
      clear ha hb hra hrb
      rw [← hl]
      clear hl
      go_enter Tryd.func67, Tryd.ntmps67
      go_wp2
      go_loopg [13] xs.length (fun g i wr => ∃ k : Nat, g + k = xs.length ∧ i = .int .i64 k ∧ xs.take k = ys.take k ∧ ∃ m, wr = w.drewN m)
      case atStart => exact ⟨0, rfl, rfl, rfl, 0, rfl⟩
      case round =>
        obtain ⟨k, hg, rfl, hok, m, rfl⟩ := hrel
        have HG := Lib.hid hg; have OK := Lib.hid hok; clear hg hok
        by_cases hk : k < xs.length
        · have hk' : (k : Int) < xs.length := by omega
          have ca := RA.out.int k hk
          have cb := RB.out.int k (by have := HL.out; omega)
          obtain ⟨z, hz⟩ : ∃ z, z = xs.getD k 0 := ⟨_, rfl⟩
          obtain ⟨u, hu⟩ : ∃ u, u = ys.getD k 0 := ⟨_, rfl⟩
          rw [← hz] at ca
          rw [← hu] at cb
          have HZ := Lib.hid hz; have HU := Lib.hid hu; clear hz hu
          by_cases hzu : z = u
          · have HN : Hid (xs.take (k + 1) = ys.take (k + 1)) := Lib.hid (by rw [take_succ_getD hk, take_succ_getD (by have := HL.out; omega), OK.out, ← HZ.out, ← HU.out, hzu])
            subst hzu
            go_wp2
            go_quiet (fail)
            go_wp2
            go_roundg (xs.length - (k + 1))
            case measure => have := HG.out; omega
            case rel => exact ⟨k + 1, by omega, by go_num, HN.out, _, rfl⟩
          · have e1 : (z != u) = true := by rw [bne_iff_ne]; exact hzu
            have HN : Hid (decide (xs = ys) = false) := Lib.hid (by rw [decide_eq_false_iff_not]; rintro rfl; exact hzu (by rw [HZ.out, HU.out]))
            go_wp2
            go_quiet (fail)
            go_wp2
            go_ret
            exact ⟨ret_bool HN.out.symm, _, by rw [World.drewN_drewN]⟩
        · have HY : Hid (decide (xs = ys) = true) := by
            have hkz : k = xs.length := by have := HG.out; omega
            have := OK.out
            rw [List.take_of_length_le (by omega), List.take_of_length_le (by have := HL.out; omega)] at this
            exact Lib.hid (by rw [decide_eq_true_eq]; exact this)
          go_wp2
          go_ret
          exact ⟨ret_bool HY.out.symm, m, rfl⟩
  · have e1 : ((xs.length : Int) != (ys.length : Int)) = true := by rw [bne_iff_ne]; omega
    have HN : Hid (decide (xs = ys) = false) := Lib.hid (by rw [decide_eq_false_iff_not]; rintro rfl; exact hl rfl)
    clear ha hb
    go_enter Tryd.func67, Tryd.ntmps67
    go_wp2
    go_ret
    exact ⟨ret_bool HN.out.symm, 0, rfl⟩
set_option maxHeartbeats 400000 in
theorem same03_any (B C : Nat) (w : World) (va vb : Value) (xs ys : List Int) (ha : Row B w va (ints xs)) (hb : Row C w vb (ints ys)) :
    Calls Tryd.prog 30 #[va, vb] w fun e w' => e = .returned (.bool (decide (xs = ys))) ∧ ∃ m, w' = w.drewN m := by
  have hxl := ha.len_le
  rw [ints_length] at hxl
  unfold maxLen at hxl
  have hyl := hb.len_le
  rw [ints_length] at hyl
  unfold maxLen at hyl
  obtain ⟨aa, ac, rfl⟩ := ha.shape
  obtain ⟨ba, bc, rfl⟩ := hb.shape
  rw [ints_length] at ha hb ⊢
  rw [ints_length]
  by_cases hl : xs.length = ys.length
  · by_cases h0 : xs.length = 0
    · have hx : xs = [] := List.eq_nil_of_length_eq_zero h0
      have hy : ys = [] := List.eq_nil_of_length_eq_zero (by omega)
      subst hx; subst hy
      clear ha hb
      go_enter Tryd.func30, Tryd.ntmps30
      go_wp2
      go_loopg [13] 0 (fun g i wr => i = .int .i64 0 ∧ wr = w)
      case atStart => exact ⟨rfl, rfl⟩
      case round =>
        obtain ⟨rfl, rfl⟩ := hrel
        go_wp2
        go_ret
        exact ⟨ret_bool rfl, 0, rfl⟩
    · obtain ⟨ab, ao, ac', e, _, _, _, hra⟩ := ha.some_ (by rw [ints_length]; omega)
      simp only [Value.slice.injEq] at e
      obtain ⟨rfl, -, -⟩ := e
      obtain ⟨bb, bo, bc', e, _, _, _, hrb⟩ := hb.some_ (by rw [ints_length]; omega)
      simp only [Value.slice.injEq] at e
      obtain ⟨rfl, -, -⟩ := e
      have RA := Lib.hid hra; have RB := Lib.hid hrb; have HL := Lib.hid hl
      clear ha hb hra hrb
      rw [← hl]
      clear hl
      go_enter Tryd.func30, Tryd.ntmps30
      go_wp2
      go_loopg [13] xs.length (fun g i wr => ∃ k : Nat, g + k = xs.length ∧ i = .int .i64 k ∧ xs.take k = ys.take k ∧ ∃ m, wr = w.drewN m)
      case atStart => exact ⟨0, rfl, rfl, rfl, 0, rfl⟩
      case round =>
        obtain ⟨k, hg, rfl, hok, m, rfl⟩ := hrel
        have HG := Lib.hid hg; have OK := Lib.hid hok; clear hg hok
        by_cases hk : k < xs.length
        · have hk' : (k : Int) < xs.length := by omega
          have ca := RA.out.int k hk
          have cb := RB.out.int k (by have := HL.out; omega)
          obtain ⟨z, hz⟩ : ∃ z, z = xs.getD k 0 := ⟨_, rfl⟩
          obtain ⟨u, hu⟩ : ∃ u, u = ys.getD k 0 := ⟨_, rfl⟩
          rw [← hz] at ca
          rw [← hu] at cb
          have HZ := Lib.hid hz; have HU := Lib.hid hu; clear hz hu
          by_cases hzu : z = u
          · have HN : Hid (xs.take (k + 1) = ys.take (k + 1)) := Lib.hid (by rw [take_succ_getD hk, take_succ_getD (by have := HL.out; omega), OK.out, ← HZ.out, ← HU.out, hzu])
            subst hzu
            go_wp2
            go_quiet (fail)
            go_wp2
            go_roundg (xs.length - (k + 1))
            case measure => have := HG.out; omega
            case rel => exact ⟨k + 1, by omega, by go_num, HN.out, _, rfl⟩
          · have e1 : (z != u) = true := by rw [bne_iff_ne]; exact hzu
            have HN : Hid (decide (xs = ys) = false) := Lib.hid (by rw [decide_eq_false_iff_not]; rintro rfl; exact hzu (by rw [HZ.out, HU.out]))
            go_wp2
            go_quiet (fail)
            go_wp2
            go_ret
            exact ⟨ret_bool HN.out.symm, _, by rw [World.drewN_drewN]⟩
        · have HY : Hid (decide (xs = ys) = true) := by
            have hkz : k = xs.length := by have := HG.out; omega
            have := OK.out
            rw [List.take_of_length_le (by omega), List.take_of_length_le (by have := HL.out; omega)] at this
            exact Lib.hid (by rw [decide_eq_true_eq]; exact this)
          go_wp2
          go_ret
          exact ⟨ret_bool HY.out.symm, m, rfl⟩
  · have e1 : ((xs.length : Int) != (ys.length : Int)) = true := by rw [bne_iff_ne]; omega
    have HN : Hid (decide (xs = ys) = false) := Lib.hid (by rw [decide_eq_false_iff_not]; rintro rfl; exact hl rfl)
    clear ha hb
    go_enter Tryd.func30, Tryd.ntmps30
    go_wp2
    go_ret
    exact ⟨ret_bool HN.out.symm, 0, rfl⟩
def withinB (xs : List Int) (s : Int) : Bool := xs.any fun b => bits .and .i64 b s == s
def withinTo (xs : List Int) (s : Int) (k : Nat) : Bool := withinB (xs.take k) s
theorem withinTo_succ {xs : List Int} {s : Int} {k : Nat} (h : k < xs.length) : withinTo xs s (k + 1) = (withinTo xs s k || (bits .and .i64 (xs.getD k 0) s == s)) := by
  unfold withinTo withinB
  rw [take_succ_getD h, List.any_append]
  simp
theorem within_yes {xs : List Int} {s : Int} {k : Nat} (h : k < xs.length) (hb : (bits .and .i64 (xs.getD k 0) s == s) = true) : withinB xs s = true := by
  unfold withinB
  rw [List.any_eq_true]
  exact ⟨xs.getD k 0, by simp [List.getD, h], hb⟩
set_option maxHeartbeats 400000 in
theorem within_any (B : Nat) (w : World) (va : Value) (xs : List Int) (s : Int) (ha : Row B w va (ints xs)) :
    Calls Tryd.prog 34 #[va, .int .i64 s] w fun e w' => e = .returned (.bool (withinB xs s)) ∧ w = w' := by
  have hxl := ha.len_le
  rw [ints_length] at hxl
  unfold maxLen at hxl
  obtain ⟨aa, ac, rfl⟩ := ha.shape
  rw [ints_length] at ha ⊢
  have HA := Lib.hid ha
  clear ha
  go_enter Tryd.func34, Tryd.ntmps34
  go_wp2
  go_loopg [9] xs.length (fun g i wr => ∃ k : Nat, g + k = xs.length ∧ i = .int .i64 k ∧ withinTo xs s k = false ∧ w = wr)
  case atStart => exact ⟨0, rfl, rfl, rfl, rfl⟩
  case round =>
    obtain ⟨k, hg, rfl, hok, rfl⟩ := hrel
    have HG := Lib.hid hg; have OK := Lib.hid hok; clear hg hok
    by_cases hk : k < xs.length
    · have hk' : (k : Int) < xs.length := by omega
      obtain ⟨ab, ao, ac', e, _, _, _, hra⟩ := HA.out.some_ (by rw [ints_length]; omega)
      simp only [Value.slice.injEq] at e
      obtain ⟨rfl, -, -⟩ := e
      have ca := hra.int k hk
      obtain ⟨z, hz⟩ : ∃ z, z = xs.getD k 0 := ⟨_, rfl⟩
      rw [← hz] at ca
      have HZ := Lib.hid hz; clear hz hra
      cases hb : (bits .and .i64 z s == s) with
      | true =>
        have HY : Hid (withinB xs s = true) := Lib.hid (within_yes hk (by rw [← HZ.out]; exact hb))
        go_wp2
        go_ret
        exact ⟨ret_bool HY.out.symm, rfl⟩
      | false =>
        have HN : Hid (withinTo xs s (k + 1) = false) := Lib.hid (by rw [withinTo_succ hk, OK.out, ← HZ.out, hb]; rfl)
        go_wp2
        go_roundg (xs.length - (k + 1))
        case measure => have := HG.out; omega
        case rel => exact ⟨k + 1, by omega, by go_num, HN.out, rfl⟩
    · have HN : Hid (withinB xs s = false) := by
        have hkz : k = xs.length := by have := HG.out; omega
        have := OK.out
        unfold withinTo at this
        rw [List.take_of_length_le (by omega)] at this
        exact Lib.hid this
      go_wp2
      go_ret
      exact ⟨ret_bool HN.out.symm, rfl⟩
end Go.Proofs.YtdjhoadoiknaoaaDoor
