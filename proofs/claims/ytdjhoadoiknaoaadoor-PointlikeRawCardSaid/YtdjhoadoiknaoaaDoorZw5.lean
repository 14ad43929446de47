/- Part 5 of the proof: FamPlain, Ctz. -/
import Derived.Test.YtdjhoadoiknaoaaDoorZw4
import Derived.Laws.Bits64b
import Derived.Laws.BitsAllLaws
import Derived.Lib.TrailingZeros
set_option linter.unusedVariables false
set_option linter.unusedSimpArgs false
namespace Go.Proofs.YtdjhoadoiknaoaaDoor
def under (l : List Nat) (s : Nat) : Bool := l.any fun b => decide (s &&& b = s)
theorem under_iff {l : List Nat} {s : Nat} : under l s = true ↔ ∃ b ∈ l, s &&& b = s := by simp [under]
theorem sub_iff {a b : Nat} : a &&& b = a ↔ ∀ z, a.testBit z = true → b.testBit z = true := by
  constructor
  · intro h z hz
    rw [← h, Nat.testBit_and, Bool.and_eq_true] at hz
    exact hz.2
  · intro h
    apply Nat.eq_of_testBit_eq
    intro z
    rw [Nat.testBit_and]
    cases ha : a.testBit z with
    | false => rfl
    | true => rw [h z ha]; rfl
theorem sub_refl (a : Nat) : a &&& a = a := Nat.and_self a
theorem sub_trans {a b c : Nat} (h : a &&& b = a) (k : b &&& c = b) : a &&& c = a := sub_iff.2 fun z hz => sub_iff.1 k z (sub_iff.1 h z hz)
theorem sub_le {a b : Nat} (h : a &&& b = a) : a ≤ b := by rw [← h]; exact Nat.and_le_right
theorem sub_lt {a b n : Nat} (h : a &&& b = a) (hb : b < 2 ^ n) : a < 2 ^ n := Nat.lt_of_le_of_lt (sub_le h) hb
theorem bit_or_one (s x z : Nat) : (s ||| 1 <<< x).testBit z = (s.testBit z || decide (x = z)) := by rw [Nat.testBit_or, testBit_one_shl]
theorem sub_or_one (s x : Nat) : s &&& (s ||| 1 <<< x) = s := sub_iff.2 fun z hz => by rw [bit_or_one, hz]; rfl
theorem or_one_sub {s x b : Nat} (h : s &&& b = s) (hb : b.testBit x = true) : (s ||| 1 <<< x) &&& b = s ||| 1 <<< x := by
  refine sub_iff.2 fun z hz => ?_
  rw [bit_or_one, Bool.or_eq_true, decide_eq_true_eq] at hz
  rcases hz with hz | rfl
  · exact sub_iff.1 h z hz
  · exact hb
theorem or_one_lt {s x n : Nat} (hs : s < 2 ^ n) (hx : x < n) : s ||| 1 <<< x < 2 ^ n := by
  refine Nat.or_lt_two_pow hs ?_
  rw [Nat.one_shiftLeft]
  exact Nat.pow_lt_pow_right (by omega) hx
theorem or_one_gt {s x : Nat} (h : s.testBit x = false) : s < s ||| 1 <<< x := by
  refine Nat.lt_of_le_of_ne (sub_le (sub_or_one s x)) fun e => ?_
  have : (s ||| 1 <<< x).testBit x = true := by rw [bit_or_one]; simp
  rw [← e, h] at this; cases this
theorem exists_bit {a b n : Nat} (h : a &&& b = a) (hne : a ≠ b) (hb : b < 2 ^ n) : ∃ x, x < n ∧ a.testBit x = false ∧ b.testBit x = true := by
  apply Classical.byContradiction
  intro hno
  apply hne
  apply Nat.eq_of_testBit_eq
  intro z
  by_cases hz : z < n
  · cases ha : a.testBit z with
    | true => exact (sub_iff.1 h z ha).symm
    | false =>
      cases hbz : b.testBit z with
      | false => rfl
      | true => exact absurd ⟨z, hz, ha, hbz⟩ hno
  · rw [bits_of_lt (sub_lt h hb) (by omega), bits_of_lt hb (by omega)]
theorem under_step {n : Nat} {l : List Nat} (hl : ∀ b ∈ l, b < 2 ^ n) (s : Nat) :
    under l s = true ↔ s ∈ l ∨ ∃ x, x < n ∧ s.testBit x = false ∧ under l (s ||| 1 <<< x) = true := by
  constructor
  · intro h
    obtain ⟨b, hb, hs⟩ := under_iff.1 h
    by_cases e : s = b
    · exact .inl (e ▸ hb)
    · obtain ⟨x, hx, h0, h1⟩ := exists_bit hs e (hl b hb)
      exact .inr ⟨x, hx, h0, under_iff.2 ⟨b, hb, or_one_sub hs h1⟩⟩
  · rintro (h | ⟨x, _, _, h⟩)
    · exact under_iff.2 ⟨s, h, sub_refl s⟩
    · obtain ⟨b, hb, hs⟩ := under_iff.1 h
      exact under_iff.2 ⟨b, hb, sub_trans (sub_or_one s x) hs⟩
theorem under_lt {n : Nat} {l : List Nat} (hl : ∀ b ∈ l, b < 2 ^ n) {s : Nat} (h : under l s = true) : s < 2 ^ n := by
  obtain ⟨b, hb, hs⟩ := under_iff.1 h
  exact sub_lt hs (hl b hb)
def topB (n : Nat) (l : List Nat) (s : Nat) : Bool := (List.range n).all fun x => s.testBit x || !under l (s ||| 1 <<< x)
def maxOf (n : Nat) (l : List Nat) : List Nat := (List.range (2 ^ n)).filter fun s => under l s && topB n l s
def mostIn (l : List Nat) (a : Nat) : Prop := ∀ b ∈ l, a = b ∨ a &&& b ≠ a
theorem mem_maxOf {n : Nat} {l : List Nat} (hl : ∀ b ∈ l, b < 2 ^ n) {s : Nat} : s ∈ maxOf n l ↔ s ∈ l ∧ mostIn l s := by
  simp only [maxOf, List.mem_filter, List.mem_range, Bool.and_eq_true]
  constructor
  · rintro ⟨hs, hu, ht⟩
    have key : ∀ b ∈ l, s &&& b = s → s = b := by
      intro b hb h
      apply Classical.byContradiction
      intro hne
      obtain ⟨x, hx, h0, h1⟩ := exists_bit h hne (hl b hb)
      have := List.all_eq_true.1 ht x (List.mem_range.2 hx)
      rw [h0, Bool.false_or, Bool.not_eq_true', under_iff.2 ⟨b, hb, or_one_sub h h1⟩] at this
      cases this
    obtain ⟨b, hb, h⟩ := under_iff.1 hu
    have e := key b hb h
    subst e
    exact ⟨hb, fun c hc => by
      by_cases e : s = c
      · exact .inl e
      · exact .inr fun h => e (key c hc h)⟩
  · rintro ⟨hs, hm⟩
    refine ⟨hl s hs, under_iff.2 ⟨s, hs, sub_refl s⟩, List.all_eq_true.2 fun x hx => ?_⟩
    cases h0 : s.testBit x with
    | true => rfl
    | false =>
      rw [Bool.false_or, Bool.not_eq_true', ← Bool.not_eq_true]
      intro hu
      obtain ⟨b, hb, h⟩ := under_iff.1 hu
      have hsb := sub_trans (sub_or_one s x) h
      rcases hm b hb with e | e
      · subst e
        have h1 := sub_le h
        have h2 := or_one_gt h0
        omega
      · exact e hsb
theorem maxOf_sorted (n : Nat) (l : List Nat) : (maxOf n l).Pairwise (· < ·) := List.Pairwise.filter _ List.pairwise_lt_range
theorem sorted_ext : ∀ {l m : List Nat}, l.Pairwise (· < ·) → m.Pairwise (· < ·) → (∀ a, a ∈ l ↔ a ∈ m) → l = m
  | [], [], _, _, _ => rfl
  | [], b :: m, _, _, h => by have := (h b).2 (by simp); simp at this
  | a :: l, [], _, _, h => by have := (h a).1 (by simp); simp at this
  | a :: l, b :: m, hl, hm, h => by
    have hl' := List.pairwise_cons.1 hl
    have hm' := List.pairwise_cons.1 hm
    have e : a = b := by
      have h1 := (h a).1 (by simp)
      have h2 := (h b).2 (by simp)
      rcases List.mem_cons.1 h1 with h1 | h1
      · exact h1
      · rcases List.mem_cons.1 h2 with h2 | h2
        · exact h2.symm
        · have := hl'.1 b h2
          have := hm'.1 a h1
          omega
    subst e
    congr 1
    refine sorted_ext hl'.2 hm'.2 fun c => ?_
    constructor
    · intro hc
      have := hl'.1 c hc
      rcases List.mem_cons.1 ((h c).1 (List.mem_cons_of_mem _ hc)) with e | e
      · omega
      · exact e
    · intro hc
      have := hm'.1 c hc
      rcases List.mem_cons.1 ((h c).2 (List.mem_cons_of_mem _ hc)) with e | e
      · omega
      · exact e
theorem eq_maxOf {n : Nat} {l m : List Nat} (hl : ∀ b ∈ l, b < 2 ^ n) (hs : m.Pairwise (· < ·)) (h : ∀ a, a ∈ m ↔ a ∈ l ∧ mostIn l a) : m = maxOf n l :=
  sorted_ext hs (maxOf_sorted n l) fun a => (h a).trans (mem_maxOf hl).symm
theorem under_congr {l m : List Nat} (h : ∀ a, a ∈ l ↔ a ∈ m) (s : Nat) : under l s = under m s := by
  rw [Bool.eq_iff_iff, under_iff, under_iff]
  exact ⟨fun ⟨b, hb, hs⟩ => ⟨b, (h b).1 hb, hs⟩, fun ⟨b, hb, hs⟩ => ⟨b, (h b).2 hb, hs⟩⟩
theorem maxOf_congr {n : Nat} {l m : List Nat} (h : ∀ a, a ∈ l ↔ a ∈ m) : maxOf n l = maxOf n m := by
  unfold maxOf topB
  congr 1
  funext s
  rw [under_congr h]
  congr 1
  congr 1
  funext x
  rw [under_congr h]
theorem maxOf_sub {n : Nat} {l : List Nat} (hl : ∀ b ∈ l, b < 2 ^ n) {s : Nat} (h : s ∈ maxOf n l) : s ∈ l := ((mem_maxOf hl).1 h).1
theorem maxOf_lt {n : Nat} {l : List Nat} {s : Nat} (h : s ∈ maxOf n l) : s < 2 ^ n := by
  simp only [maxOf, List.mem_filter, List.mem_range] at h; exact h.1
theorem exists_max {n : Nat} {l : List Nat} (hl : ∀ b ∈ l, b < 2 ^ n) : ∀ (d a : Nat), 2 ^ n - a ≤ d → a ∈ l → ∃ b ∈ maxOf n l, a &&& b = a := by
  intro d
  induction d with
  | zero => intro a hd ha; have := hl a ha; omega
  | succ d ih =>
    intro a hd ha
    by_cases hm : mostIn l a
    · exact ⟨a, (mem_maxOf hl).2 ⟨ha, hm⟩, sub_refl a⟩
    · have : ∃ c, c ∈ l ∧ a ≠ c ∧ a &&& c = a := by
        apply Classical.byContradiction
        intro hno
        exact hm fun b hb => by
          by_cases e : a = b
          · exact .inl e
          · exact .inr fun h => hno ⟨b, hb, e, h⟩
      obtain ⟨c, hc, hne, hs⟩ := this
      have h1 := sub_le hs
      obtain ⟨b, hb, h⟩ := ih c (by have := hl a ha; have := hl c hc; omega) hc
      exact ⟨b, hb, sub_trans hs h⟩
theorem under_maxOf {n : Nat} {l : List Nat} (hl : ∀ b ∈ l, b < 2 ^ n) (s : Nat) : under (maxOf n l) s = under l s := by
  rw [Bool.eq_iff_iff, under_iff, under_iff]
  constructor
  · rintro ⟨b, hb, h⟩
    exact ⟨b, maxOf_sub hl hb, h⟩
  · rintro ⟨b, hb, h⟩
    obtain ⟨c, hc, h2⟩ := exists_max hl _ b (Nat.le_refl _) hb
    exact ⟨c, hc, sub_trans h h2⟩
theorem maxOf_max {n : Nat} {l : List Nat} (hl : ∀ b ∈ l, b < 2 ^ n) : maxOf n (maxOf n l) = maxOf n l := by
  have e : ∀ s, under (maxOf n l) s = under l s := under_maxOf hl
  unfold maxOf topB
  congr 1
  funext s
  have e' : (fun s => under l s && (List.range n).all fun x => s.testBit x || !under l (s ||| 1 <<< x)) = (fun s => under l s && topB n l s) := rfl
  rw [e']
  show (under (maxOf n l) s && _) = _
  rw [e]
  congr 1
  congr 1
  funext x
  show (s.testBit x || !under (maxOf n l) (s ||| 1 <<< x)) = _
  rw [e]
def roundList (n : Nat) (tb : Nat → Nat → Nat) (l : List Nat) : List Nat := l ++ l.flatMap fun a => (l.map fun b => prodSet n tb a b) ++ [omegaSet n tb a]
def roundSets (n : Nat) (tb : Nat → Nat → Nat) (l : List Nat) : List Nat := maxOf n (roundList n tb l)
theorem mem_roundList {n : Nat} {tb : Nat → Nat → Nat} {l : List Nat} {s : Nat} :
    s ∈ roundList n tb l ↔ s ∈ l ∨ ∃ a ∈ l, (∃ b ∈ l, prodSet n tb a b = s) ∨ omegaSet n tb a = s := by
  simp only [roundList, List.mem_append, List.mem_flatMap, List.mem_map, List.mem_singleton]
  constructor
  · rintro (h | ⟨a, ha, h | h⟩)
    · exact .inl h
    · exact .inr ⟨a, ha, .inl h⟩
    · exact .inr ⟨a, ha, .inr h.symm⟩
  · rintro (h | ⟨a, ha, h | h⟩)
    · exact .inl h
    · exact .inr ⟨a, ha, .inl h⟩
    · exact .inr ⟨a, ha, .inr h.symm⟩
theorem roundList_lt {n : Nat} {tb : Nat → Nat → Nat} (ht : Tb n tb) {l : List Nat} (hl : ∀ b ∈ l, b < 2 ^ n) : ∀ b ∈ roundList n tb l, b < 2 ^ n := by
  intro s hs
  rcases mem_roundList.1 hs with h | ⟨a, ha, ⟨b, _, rfl⟩ | rfl⟩
  · exact hl s h
  · exact prodSet_lt ht.lt a b
  · exact omegaSet_lt ht (hl a ha)
end Go.Proofs.YtdjhoadoiknaoaaDoor
namespace Go.Proofs.YtdjhoadoiknaoaaDoor
open Go.RowKit
def TabOk (w : World) : Prop := 1 < w.heap.size ∧ ∀ j, j < Lib.deBruijn64tab.length → w.cell? ⟨1, j, none⟩ = some (.int .u8 (Lib.deBruijn64tab.getD j 0))
theorem TabOk.kept {w w' : World} {row : Option Nat} (h : TabOk w) (hg : w.grownBy w' row) (hr : row ≠ some 1) : TabOk w' :=
  ⟨Nat.lt_of_lt_of_le h.1 hg.size, fun j hj => (World.cell?_of_block (hg.block _ h.1 (fun e => hr e.symm))).trans (h.2 j hj)⟩
theorem TabOk.of_heap {w w' : World} (h : TabOk w) (e : w'.heap = w.heap) : TabOk w' :=
  ⟨by rw [e]; exact h.1, fun j hj => (World.cell?_of_block (by rw [e])).trans (h.2 j hj)⟩
theorem tz64_key (x a : Nat) (hx : x < 18446744073709551616) (hx0 : x ≠ 0) (hlow : x &&& (18446744073709551616 - x) = a) :
    IntKind.u64.wrap (bits BinOp.and IntKind.u64 (x : Int) (IntKind.u64.wrap (-(x : Int))) * 285870213051353865) / 288230376151711744 = ((a * 285870213051353865 % 18446744073709551616 / 288230376151711744 : Nat) : Int) := by
  have e1 : IntKind.u64.wrap (-(x : Int)) = ((18446744073709551616 - x : Nat) : Int) := by rw [IntKind.wrap_u64]; omega
  rw [e1, bits_and_u64_nat x _ hx (by omega), hlow, IntKind.wrap_u64]
  omega
set_option maxHeartbeats 1000000 in
theorem tz64_core (x k idx : Nat) (w : World) (hx0 : ((x : Int) == 0) = false)
    (key : IntKind.u64.wrap (bits BinOp.and IntKind.u64 (x : Int) (IntKind.u64.wrap (-(x : Int))) * 285870213051353865) / 288230376151711744 = (idx : Int))
    (hi : idx < 64) (hk : k < 64) (hcell : w.cell? ⟨1, idx, none⟩ = some (.int .u8 k)) :
    Calls Tryd.prog 110 #[.int .u64 x] w fun e w' => e = .returned (.int .i64 k) ∧ w = w' := by
  go_enter Tryd.func110, Tryd.ntmps110
  go_wp2_with (simp only [key])
  go_ret
  exact ⟨rfl, rfl⟩
theorem tz_any (x : Nat) (hx0 : x ≠ 0) (hx : x < 18446744073709551616) (w : World) (hT : TabOk w) :
    Calls Tryd.prog 88 #[.int .u64 x] w fun e w' => e = .returned (.int .i64 (Lib.ctz 64 x : Nat)) ∧ w = w' := by
  have c64 : Hid (Calls Tryd.prog 110 #[.int .u64 x] w fun e w' => e = .returned (.int .i64 (Lib.ctz 64 x : Nat)) ∧ w = w') := by
    obtain ⟨hlow, hk⟩ := Lib.lowest_bit 64 x hx0 hx
    obtain ⟨hi, htab⟩ := Lib.deBruijn64_at _ hk
    have hcell := hT.2 _ hi
    rw [htab] at hcell
    exact tz64_core x _ _ w (by simp; omega) (tz64_key x _ hx hx0 hlow) hi hk hcell
  have hw : IntKind.u64.wrap (x : Int) = (x : Int) := by rw [IntKind.wrap_u64]; omega
  clear hT
  go_enter Tryd.func88, Tryd.ntmps88
  go_wp2_with (go_at_call 110; refine c64.out.mono ?_; rintro e w' ⟨rfl, rfl⟩)
  go_ret
  exact ⟨rfl, rfl⟩
def low (x : Nat) : Nat := Lib.ctz 64 x
theorem low_spec {x : Nat} (h0 : x ≠ 0) (hx : x < 18446744073709551616) : ∃ m, x = 2 ^ low x * (2 * m + 1) := by
  obtain ⟨m, hm, _⟩ := Lib.ctzFrom_spec 64 x (by omega) hx
  exact ⟨m, by rw [low, Lib.ctz, if_neg h0]; exact hm⟩
theorem div_low {k m : Nat} : 2 ^ k * (2 * m + 1) / 2 ^ k = 2 * m + 1 := Nat.mul_div_cancel_left _ (Nat.two_pow_pos k)
theorem div_low' {k m : Nat} : (2 ^ k * (2 * m + 1) - 1) / 2 ^ k = 2 * m := by
  have hp := Nat.two_pow_pos k
  have e : 2 ^ k * (2 * m + 1) - 1 = 2 ^ k - 1 + 2 ^ k * (2 * m) := by rw [Nat.mul_add, Nat.mul_one]; omega
  rw [e, Nat.add_mul_div_left _ _ hp, Nat.div_eq_of_lt (by omega)]
  omega
theorem low_bit {x : Nat} (h0 : x ≠ 0) (hx : x < 18446744073709551616) : x.testBit (low x) = true := by
  obtain ⟨m, hm⟩ := low_spec h0 hx
  rw [Nat.testBit_eq_decide_div_mod_eq, decide_eq_true_eq]
  have : x / 2 ^ low x = 2 * m + 1 := by
    conv => lhs; lhs; rw [hm]
    exact div_low
  omega
theorem low_least {x z : Nat} (h0 : x ≠ 0) (hx : x < 18446744073709551616) (hz : z < low x) : x.testBit z = false := by
  obtain ⟨m, hm⟩ := low_spec h0 hx
  rw [hm, Nat.testBit_two_pow_mul]
  simp; omega
def rest (x : Nat) : Nat := x &&& (x - 1)
theorem rest_bit {x : Nat} (h0 : x ≠ 0) (hx : x < 18446744073709551616) (z : Nat) : (rest x).testBit z = (x.testBit z && decide (z ≠ low x)) := by
  obtain ⟨m, hm⟩ := low_spec h0 hx
  rw [rest, Nat.testBit_and]
  rcases Nat.lt_trichotomy z (low x) with h | h | h
  · rw [low_least h0 hx h]; simp
  · subst h
    have : (x - 1).testBit (low x) = false := by
      rw [Nat.testBit_eq_decide_div_mod_eq, decide_eq_false_iff_not]
      have : (x - 1) / 2 ^ low x = 2 * m := by
        conv => lhs; lhs; rw [hm]
        exact div_low'
      omega
    rw [this]; simp
  · obtain ⟨j, rfl⟩ : ∃ j, z = low x + 1 + j := ⟨z - low x - 1, by omega⟩
    have e : (x - 1).testBit (low x + 1 + j) = x.testBit (low x + 1 + j) := by
      rw [Nat.testBit_eq_decide_div_mod_eq, Nat.testBit_eq_decide_div_mod_eq]
      have d1 : x / 2 ^ (low x + 1 + j) = m / 2 ^ j := by
        rw [Nat.add_assoc, Nat.pow_add, ← Nat.div_div_eq_div_mul]
        conv => lhs; lhs; lhs; rw [hm]
        rw [div_low, Nat.pow_add, ← Nat.div_div_eq_div_mul]
        congr 1; omega
      have d2 : (x - 1) / 2 ^ (low x + 1 + j) = m / 2 ^ j := by
        rw [Nat.add_assoc, Nat.pow_add, ← Nat.div_div_eq_div_mul]
        conv => lhs; lhs; lhs; rw [hm]
        rw [div_low', Nat.pow_add, ← Nat.div_div_eq_div_mul]
        congr 1; omega
      rw [d1, d2]
    rw [e, Bool.and_self]
    have : low x + 1 + j ≠ low x := by omega
    simp [this]
theorem rest_lt {x : Nat} (h0 : x ≠ 0) : rest x < x := by
  have : rest x ≤ x - 1 := Nat.and_le_right
  omega
theorem low_lt {x n : Nat} (h0 : x ≠ 0) (hx : x < 2 ^ n) (hn : n ≤ 64) : low x < n := by
  have h64 : x < 18446744073709551616 := Nat.lt_of_lt_of_le hx (Nat.pow_le_pow_right (by omega) hn)
  rcases Nat.lt_or_ge (low x) n with h | h
  · exact h
  · have := low_bit h0 h64
    rw [bits_of_lt hx h] at this; cases this
theorem ofInt_i64 (a : Nat) (ha : a < 9223372036854775808) : (BitVec.ofInt 64 (a : Int)).toNat = a := by
  rw [BitVec.ofInt_natCast, BitVec.toNat_ofNat]; exact Nat.mod_eq_of_lt (by omega)
theorem i64_and_nat (a b : Nat) (ha : a < 9223372036854775808) (hb : b < 9223372036854775808) : bits .and .i64 (a : Int) (b : Int) = ((a &&& b : Nat) : Int) := by
  have hx : a &&& b < 2 ^ 63 := Nat.and_lt_two_pow _ (by omega)
  show IntKind.i64.wrap ((BitVec.ofInt 64 (a : Int) &&& BitVec.ofInt 64 (b : Int)).toNat : Int) = _
  rw [BitVec.toNat_and, ofInt_i64 a ha, ofInt_i64 b hb, IntKind.wrap_i64]
  omega
theorem i64_or_nat (a b : Nat) (ha : a < 9223372036854775808) (hb : b < 9223372036854775808) : bits .or .i64 (a : Int) (b : Int) = ((a ||| b : Nat) : Int) := by
  have hx : a ||| b < 2 ^ 63 := Nat.or_lt_two_pow (by omega) (by omega)
  show IntKind.i64.wrap ((BitVec.ofInt 64 (a : Int) ||| BitVec.ofInt 64 (b : Int)).toNat : Int) = _
  rw [BitVec.toNat_or, ofInt_i64 a ha, ofInt_i64 b hb, IntKind.wrap_i64]
  omega
end Go.Proofs.YtdjhoadoiknaoaaDoor
