/- Part 2 of the proof: BitSet, TabPlain. -/
import Derived.Test.YtdjhoadoiknaoaaDoorZw1
set_option linter.unusedVariables false
set_option linter.unusedSimpArgs false
namespace Go.Proofs.YtdjhoadoiknaoaaDoor
theorem testBit_one_shl (x z : Nat) : (1 <<< x).testBit z = decide (x = z) := by
  rw [Nat.one_shiftLeft, Nat.testBit_two_pow]
theorem lt_of_bits {a n : Nat} (h : ∀ z, n ≤ z → a.testBit z = false) : a < 2 ^ n := by
  rcases Nat.lt_or_ge a (2 ^ n) with h1 | h1
  · exact h1
  · obtain ⟨z, hz, ht⟩ := Nat.exists_ge_and_testBit_of_ge_two_pow h1
    rw [h z hz] at ht; cases ht
theorem bits_of_lt {a n z : Nat} (h : a < 2 ^ n) (hz : n ≤ z) : a.testBit z = false :=
  Nat.testBit_lt_two_pow (Nat.lt_of_lt_of_le h (Nat.pow_le_pow_right (by omega) hz))
def ofList : List Nat → Nat
  | [] => 0
  | x :: l => 1 <<< x ||| ofList l
theorem ofList_bit (l : List Nat) (z : Nat) : (ofList l).testBit z = decide (z ∈ l) := by
  induction l with
  | nil => simp [ofList]
  | cons x l ih =>
    rw [ofList, Nat.testBit_or, testBit_one_shl, ih]
    by_cases h : x = z
    · simp [h]
    · have h' : ¬ z = x := fun e => h e.symm
      simp [h, h']
def elems (n a : Nat) : List Nat := (List.range n).filter fun x => a.testBit x
theorem mem_elems {n a x : Nat} : x ∈ elems n a ↔ x < n ∧ a.testBit x = true := by simp [elems]
def prodSet (n : Nat) (tb : Nat → Nat → Nat) (a b : Nat) : Nat := ofList ((elems n a).flatMap fun x => (elems n b).map fun y => tb x y)
theorem prodSet_bit (n : Nat) (tb : Nat → Nat → Nat) (a b z : Nat) : (prodSet n tb a b).testBit z = true ↔ ∃ x y, x < n ∧ y < n ∧ a.testBit x = true ∧ b.testBit y = true ∧ tb x y = z := by
  rw [prodSet, ofList_bit, decide_eq_true_iff, List.mem_flatMap]
  constructor
  · rintro ⟨x, hx, h⟩
    obtain ⟨y, hy, rfl⟩ := List.mem_map.1 h
    obtain ⟨h1, h2⟩ := mem_elems.1 hx
    obtain ⟨h3, h4⟩ := mem_elems.1 hy
    exact ⟨x, y, h1, h3, h2, h4, rfl⟩
  · rintro ⟨x, y, h1, h3, h2, h4, rfl⟩
    exact ⟨x, mem_elems.2 ⟨h1, h2⟩, List.mem_map.2 ⟨y, mem_elems.2 ⟨h3, h4⟩, rfl⟩⟩
theorem eq_prodSet {n : Nat} {tb : Nat → Nat → Nat} {a b c : Nat} (h : ∀ z, c.testBit z = true ↔ ∃ x y, x < n ∧ y < n ∧ a.testBit x = true ∧ b.testBit y = true ∧ tb x y = z) : c = prodSet n tb a b := by
  apply Nat.eq_of_testBit_eq
  intro z
  rw [Bool.eq_iff_iff, h z, prodSet_bit]
structure Tb (n : Nat) (tb : Nat → Nat → Nat) : Prop where
  lt : ∀ x y, x < n → y < n → tb x y < n
  assoc : ∀ x y z, x < n → y < n → z < n → tb (tb x y) z = tb x (tb y z)
section
variable {n : Nat} {tb : Nat → Nat → Nat}
theorem prodSet_lt (h : ∀ x y, x < n → y < n → tb x y < n) (a b : Nat) : prodSet n tb a b < 2 ^ n := by
  refine lt_of_bits fun z hz => ?_
  rw [← Bool.not_eq_true]
  intro hb
  obtain ⟨x, y, hx, hy, _, _, e⟩ := (prodSet_bit n tb a b z).1 hb
  have := h x y hx hy
  omega
theorem prodSet_assoc (h : Tb n tb) (a b c : Nat) : prodSet n tb (prodSet n tb a b) c = prodSet n tb a (prodSet n tb b c) := by
  apply Nat.eq_of_testBit_eq
  intro z
  rw [Bool.eq_iff_iff, prodSet_bit, prodSet_bit]
  constructor
  · rintro ⟨x, y, hx, hy, h1, h2, rfl⟩
    obtain ⟨u, v, hu, hv, h3, h4, rfl⟩ := (prodSet_bit _ _ _ _ _).1 h1
    exact ⟨u, tb v y, hu, h.lt _ _ hv hy, h3, (prodSet_bit _ _ _ _ _).2 ⟨v, y, hv, hy, h4, h2, rfl⟩, (h.assoc u v y hu hv hy).symm⟩
  · rintro ⟨x, y, hx, hy, h1, h2, rfl⟩
    obtain ⟨u, v, hu, hv, h3, h4, rfl⟩ := (prodSet_bit _ _ _ _ _).1 h2
    exact ⟨tb x u, v, h.lt _ _ hx hu, hv, (prodSet_bit _ _ _ _ _).2 ⟨x, u, hx, hu, h1, h3, rfl⟩, h4, h.assoc x u v hx hu hv⟩
def powSet (n : Nat) (tb : Nat → Nat → Nat) (a : Nat) : Nat → Nat
  | 0 => a
  | k + 1 => prodSet n tb (powSet n tb a k) a
theorem powSet_lt (h : Tb n tb) {a : Nat} (ha : a < 2 ^ n) (k : Nat) : powSet n tb a k < 2 ^ n := by
  cases k with
  | zero => exact ha
  | succ k => exact prodSet_lt h.lt _ _
theorem powSet_add (h : Tb n tb) (a i j : Nat) : prodSet n tb (powSet n tb a i) (powSet n tb a j) = powSet n tb a (i + j + 1) := by
  induction j with
  | zero => rfl
  | succ j ih =>
    show prodSet n tb (powSet n tb a i) (prodSet n tb (powSet n tb a j) a) = _
    rw [← prodSet_assoc h, ih]; rfl
end
theorem pigeon : ∀ (N : Nat) (f : Nat → Nat), (∀ i, i ≤ N → f i < N) → ∃ i j, i < j ∧ j ≤ N ∧ f i = f j
  | 0, f, h => by have := h 0 (Nat.le_refl _); omega
  | N + 1, f, h => by
    -- the value of the last one is taken out; where it stands, N stands in its place
    by_cases hex : ∃ i, i ≤ N ∧ f i = f (N + 1)
    · obtain ⟨i, hi, e⟩ := hex
      exact ⟨i, N + 1, by omega, Nat.le_refl _, e⟩
    · have hne : ∀ i, i ≤ N → f i ≠ f (N + 1) := fun i hi e => hex ⟨i, hi, e⟩
      obtain ⟨i, j, hij, hj, e⟩ := pigeon N (fun i => if f i = N then f (N + 1) else f i) (fun i hi => by
        have h1 := h i (by omega)
        have h2 := h (N + 1) (Nat.le_refl _)
        have h3 := hne i hi
        split <;> omega)
      refine ⟨i, j, hij, by omega, ?_⟩
      have h1 := hne i (by omega)
      have h2 := hne j hj
      split at e <;> split at e <;> omega
section
variable {n : Nat} {tb : Nat → Nat → Nat}
theorem powSet_shift (a i j : Nat) (e : powSet n tb a i = powSet n tb a j) (m : Nat) : powSet n tb a (i + m) = powSet n tb a (j + m) := by
  induction m with
  | zero => exact e
  | succ m ih => show prodSet n tb (powSet n tb a (i + m)) a = prodSet n tb (powSet n tb a (j + m)) a; rw [ih]
theorem powSet_period (a i d : Nat) (e : powSet n tb a i = powSet n tb a (i + d)) (m k : Nat) : powSet n tb a (i + m) = powSet n tb a (i + m + k * d) := by
  induction k with
  | zero => simp
  | succ k ih =>
    rw [ih]
    have := powSet_shift a i (i + d) e (m + k * d)
    rw [show i + m + k * d = i + (m + k * d) by omega, this, Nat.succ_mul]
    congr 1; omega
theorem powSet_idem (h : Tb n tb) {a : Nat} (ha : a < 2 ^ n) : ∃ m, m < 2 ^ n * 2 ^ n + 2 ^ n ∧ prodSet n tb (powSet n tb a m) (powSet n tb a m) = powSet n tb a m := by
  obtain ⟨i, j, hij, hj, e⟩ := pigeon (2 ^ n) (powSet n tb a) (fun k _ => powSet_lt h ha k)
  obtain ⟨d, rfl⟩ : ∃ d, j = i + d := ⟨j - i, by omega⟩
  have hd : 0 < d := by omega
  -- exponent (m + 1) a multiple of d, m not below i
  refine ⟨(i + 1) * d - 1, ?_, ?_⟩
  · have h1 : (i + 1) * d ≤ 2 ^ n * 2 ^ n := Nat.mul_le_mul (by omega) (by omega)
    have : 0 < 2 ^ n := Nat.two_pow_pos n
    omega
  · have h2 : i + 1 ≤ (i + 1) * d := Nat.le_mul_of_pos_right _ hd
    rw [powSet_add h]
    have e1 : (i + 1) * d - 1 = i + ((i + 1) * d - 1 - i) := by omega
    have := powSet_period a i d e ((i + 1) * d - 1 - i) (i + 1)
    rw [← e1] at this
    rw [this]
    congr 1
    omega
end
def omegaGo (n : Nat) (tb : Nat → Nat → Nat) (a : Nat) : Nat → Nat → Nat
  | 0, x => x ||| prodSet n tb x a
  | k + 1, x => if prodSet n tb x x = x then x ||| prodSet n tb x a else omegaGo n tb a k (prodSet n tb x a)
def omegaSet (n : Nat) (tb : Nat → Nat → Nat) (a : Nat) : Nat := omegaGo n tb a (2 ^ n * 2 ^ n + 2 ^ n) a
section
variable {n : Nat} {tb : Nat → Nat → Nat}
theorem omegaGo_step {a k x : Nat} (h : prodSet n tb x x ≠ x) : omegaGo n tb a (k + 1) x = omegaGo n tb a k (prodSet n tb x a) := by rw [omegaGo, if_neg h]
theorem omegaGo_stop {a k x : Nat} (h : prodSet n tb x x = x) : omegaGo n tb a k x = x ||| prodSet n tb x a := by
  cases k with
  | zero => rfl
  | succ k => rw [omegaGo, if_pos h]
def Ends (n : Nat) (tb : Nat → Nat → Nat) (a k x : Nat) : Prop := ∃ i m, x = powSet n tb a i ∧ m ≤ k ∧ prodSet n tb (powSet n tb a (i + m)) (powSet n tb a (i + m)) = powSet n tb a (i + m)
theorem ends_start (h : Tb n tb) {a : Nat} (ha : a < 2 ^ n) : Ends n tb a (2 ^ n * 2 ^ n + 2 ^ n) a := by
  obtain ⟨m, hm, e⟩ := powSet_idem h ha
  exact ⟨0, m, rfl, by omega, by rw [Nat.zero_add]; exact e⟩
theorem ends_step {a k x : Nat} (h : Ends n tb a k x) (hne : prodSet n tb x x ≠ x) : ∃ j, k = j + 1 ∧ Ends n tb a j (prodSet n tb x a) := by
  obtain ⟨i, m, rfl, hm, e⟩ := h
  obtain ⟨m', rfl⟩ : ∃ m', m = m' + 1 := ⟨m - 1, by
    rcases Nat.eq_zero_or_pos m with h0 | h0
    · subst h0; exact absurd e hne
    · omega⟩
  exact ⟨k - 1, by omega, i + 1, m', rfl, by omega, by rw [show i + 1 + m' = i + (m' + 1) by omega]; exact e⟩
theorem or_lt {a b n : Nat} (ha : a < 2 ^ n) (hb : b < 2 ^ n) : a ||| b < 2 ^ n := Nat.or_lt_two_pow ha hb
theorem omegaGo_lt (h : Tb n tb) {a : Nat} (ha : a < 2 ^ n) : ∀ (k x : Nat), x < 2 ^ n → omegaGo n tb a k x < 2 ^ n
  | 0, x, hx => or_lt hx (prodSet_lt h.lt _ _)
  | k + 1, x, hx => by
    rw [omegaGo]
    split
    · exact or_lt hx (prodSet_lt h.lt _ _)
    · exact omegaGo_lt h ha k _ (prodSet_lt h.lt _ _)
theorem omegaSet_lt (h : Tb n tb) {a : Nat} (ha : a < 2 ^ n) : omegaSet n tb a < 2 ^ n := omegaGo_lt h ha _ _ ha
end
end Go.Proofs.YtdjhoadoiknaoaaDoor
namespace Go.Proofs.YtdjhoadoiknaoaaDoor
def ent (t : List (List Int)) (x y : Nat) : Int := (t.getD x []).getD y 0
def entN (t : List (List Int)) (x y : Nat) : Nat := (ent t x y).toNat
def rowOk (n : Nat) (r : List Int) : Bool := decide (r.length = n) && r.all fun x => decide (0 ≤ x ∧ x < n)
def shapeE (t : List (List Int)) : Int := if 400 < t.length then 3 else if t.length = 0 then 4 else if t.all (rowOk t.length) then 0 else 4
structure Shape (t : List (List Int)) : Prop where
  pos : 0 < t.length
  le : t.length ≤ 400
  row : ∀ x, x < t.length → (t.getD x []).length = t.length
  lo : ∀ x y, x < t.length → y < t.length → 0 ≤ ent t x y
  hi : ∀ x y, x < t.length → y < t.length → ent t x y < t.length
theorem rowOk_iff {n : Nat} {r : List Int} : rowOk n r = true ↔ r.length = n ∧ ∀ y, y < r.length → 0 ≤ r.getD y 0 ∧ r.getD y 0 < n := by
  simp only [rowOk, Bool.and_eq_true, decide_eq_true_eq, List.all_eq_true]
  refine and_congr_right fun _ => ⟨fun h y hy => ?_, fun h x hx => ?_⟩
  · have := h (r[y]) (List.getElem_mem hy)
    simpa [List.getD, List.getElem?_eq_getElem hy] using this
  · obtain ⟨y, hy, rfl⟩ := List.getElem_of_mem hx
    have := h y hy
    simpa [List.getD, List.getElem?_eq_getElem hy] using this
theorem shape_of {t : List (List Int)} (h : shapeE t = 0) : Shape t := by
  unfold shapeE at h
  split at h
  · omega
  split at h
  · omega
  split at h
  · rename_i h1 h2 h3
    rw [List.all_eq_true] at h3
    have hr : ∀ x, x < t.length → rowOk t.length (t.getD x []) = true := fun x hx => by
      have := h3 t[x] (List.getElem_mem hx)
      simpa [List.getD, List.getElem?_eq_getElem hx] using this
    refine ⟨by omega, by omega, fun x hx => (rowOk_iff.1 (hr x hx)).1, fun x y hx hy => ?_, fun x y hx hy => ?_⟩
    · obtain ⟨e, h⟩ := rowOk_iff.1 (hr x hx)
      exact (h y (by omega)).1
    · obtain ⟨e, h⟩ := rowOk_iff.1 (hr x hx)
      exact (h y (by omega)).2
  · omega
theorem entN_cast {t : List (List Int)} (h : Shape t) {x y : Nat} (hx : x < t.length) (hy : y < t.length) : (entN t x y : Int) = ent t x y := Int.toNat_of_nonneg (h.lo x y hx hy)
theorem entN_lt {t : List (List Int)} (h : Shape t) {x y : Nat} (hx : x < t.length) (hy : y < t.length) : entN t x y < t.length := by
  have h1 := entN_cast h hx hy
  have h2 := h.hi x y hx hy
  omega
def lightAt (t : List (List Int)) (g : Nat) : Prop := ∀ x y, x < t.length → y < t.length → entN t (entN t x g) y = entN t x (entN t g y)
def Assoc (t : List (List Int)) : Prop := ∀ g, g < t.length → lightAt t g
open Classical in
noncomputable def validE (t : List (List Int)) : Int := if shapeE t ≠ 0 then shapeE t else if Assoc t then 0 else 5
theorem validE_shape {t : List (List Int)} (h : shapeE t ≠ 0) : validE t = shapeE t := by rw [validE, if_pos h]
theorem validE_assoc {t : List (List Int)} (h : shapeE t = 0) (ha : Assoc t) : validE t = 0 := by rw [validE, if_neg (by omega), if_pos ha]
theorem validE_not {t : List (List Int)} (h : shapeE t = 0) (ha : ¬ Assoc t) : validE t = 5 := by rw [validE, if_neg (by omega), if_neg ha]
theorem valid_of {t : List (List Int)} (h : validE t = 0) : Shape t ∧ Assoc t := by
  by_cases hs : shapeE t = 0
  · by_cases ha : Assoc t
    · exact ⟨shape_of hs, ha⟩
    · rw [validE_not hs ha] at h; omega
  · rw [validE_shape hs] at h; exact absurd h hs
theorem tb_of {t : List (List Int)} (h : validE t = 0) : Tb t.length (entN t) := by
  obtain ⟨hs, ha⟩ := valid_of h
  exact ⟨fun x y hx hy => entN_lt hs hx hy, fun x y z hx hy hz => ha y hy x z hx hz⟩
inductive Gen (t : List (List Int)) (gs : List Nat) : Nat → Prop where
  | base (g : Nat) : g ∈ gs → Gen t gs g
  | mul (x y : Nat) : Gen t gs x → Gen t gs y → Gen t gs (entN t x y)
theorem Gen.mono {t : List (List Int)} {gs hs : List Nat} (h : ∀ g ∈ gs, g ∈ hs) {x : Nat} (hx : Gen t gs x) : Gen t hs x := by
  induction hx with
  | base g hg => exact .base g (h g hg)
  | mul x y _ _ h1 h2 => exact .mul x y h1 h2
theorem light_gen {t : List (List Int)} (hs : Shape t) {gs : List Nat} (hg : ∀ g ∈ gs, g < t.length ∧ lightAt t g) {x : Nat} (hx : Gen t gs x) : x < t.length ∧ lightAt t x := by
  induction hx with
  | base g h => exact hg g h
  | mul g h _ _ h1 h2 =>
    obtain ⟨hg, lg⟩ := h1
    obtain ⟨hh, lh⟩ := h2
    refine ⟨entN_lt hs hg hh, fun x y hx hy => ?_⟩
    have e1 := lg x h hx hh
    have e2 := lh (entN t x g) y (entN_lt hs hx hg) hy
    have e3 := lg x (entN t h y) hx (entN_lt hs hh hy)
    have e4 := lh g y hg hy
    rw [← e1, e2, e3, e4]
theorem assoc_of_light {t : List (List Int)} (hs : Shape t) {gs : List Nat} (hall : ∀ x, x < t.length → Gen t gs x) (hg : ∀ g ∈ gs, g < t.length ∧ lightAt t g) : Assoc t :=
  fun x hx => (light_gen hs hg (hall x hx)).2
end Go.Proofs.YtdjhoadoiknaoaaDoor
