/- Part 37 of the proof: PatSets. -/
import Derived.Test.YtgbfaggnnfoamaaZi36
set_option linter.unusedVariables false
set_option linter.unusedSimpArgs false
namespace Go.Proofs.Ytgbfaggnnfoamaa
def posL : Nat → List (List Nat) → List (Nat × Nat)
 | _, [] => []
 | i, u :: us => (List.range (u.length + 1)).map (fun k => (i, k)) ++ posL (i + 1) us
def xG (bs : List (List Nat)) : List (Nat × Nat) := posL 0 bs
def offP (bs : List (List Nat)) (i : Nat) : Nat := yC (bs.take i) + i
def lenP (bs : List (List Nat)) (i : Nat) : Nat := (bs.getD i []).length
theorem vT : ∀ (bs : List (List Nat)) (i : Nat), (posL i bs).length = yC bs + bs.length
 | [], i => rfl
 | u :: us, i => by
  rw [posL, List.length_append, List.length_map, List.length_range, vT us, wG, List.length_cons]; omega
theorem wQ (bs : List (List Nat)) : offP bs 0 = 0 := by simp [offP, yC]
theorem jP (u : List Nat) (us : List (List Nat)) (i : Nat) : offP (u :: us) (i + 1) = u.length + 1 + offP us i := by
 simp only [offP, List.take_succ_cons, wG]; omega
theorem jO {bs : List (List Nat)} {i : Nat} (h : i < bs.length) : offP bs (i + 1) = offP bs i + lenP bs i + 1 := by
 unfold offP lenP
 rw [List.take_succ_eq_append_getElem h, pX, zI h]
 simp [yC]; omega
theorem posL_get : ∀ (bs : List (List Nat)) (j i k : Nat), i < bs.length → k ≤ lenP bs i → (posL j bs)[offP bs i + k]? = some (j + i, k)
 | [], j, i, k, h, _ => by simp at h
 | u :: us, j, 0, k, h, hk => by
  have hk' : k < u.length + 1 := by unfold lenP at hk; simp at hk; omega
  rw [wQ, Nat.zero_add, posL, List.getElem?_append_left (by simpa using hk')]
  simp [hk']
 | u :: us, j, i + 1, k, h, hk => by
  have := posL_get us (j + 1) i k (by simpa using h) (by unfold lenP at hk ⊢; simpa using hk)
  rw [jP, posL, List.getElem?_append_right (by simp; omega), List.length_map, List.length_range, show u.length + 1 + offP us i + k - (u.length + 1) = offP us i + k by omega, this]
  congr 2; omega
theorem sZ {bs : List (List Nat)} {i k : Nat} (hi : i < bs.length) (hk : k ≤ lenP bs i) : (xG bs)[offP bs i + k]? = some (i, k) := by
 have := posL_get bs 0 i k hi hk
 rwa [Nat.zero_add] at this
theorem uH {bs : List (List Nat)} {i k : Nat} (hi : i < bs.length) (hk : k ≤ lenP bs i) : offP bs i + k < (xG bs).length := (List.getElem?_eq_some_iff.1 (sZ hi hk)).1
theorem lR : ∀ (bs : List (List Nat)) (j p : Nat), p < (posL j bs).length → ∃ i k, i < bs.length ∧ k ≤ lenP bs i ∧ p = offP bs i + k
 | [], j, p, h => by simp [posL] at h
 | u :: us, j, p, h => by
  by_cases hp : p < u.length + 1
  ·exact ⟨0, p, by simp, by unfold lenP; simp; omega, by rw [wQ]; omega⟩
  ·rw [vT, wG, List.length_cons] at h
   obtain ⟨i, k, hi, hk, e⟩ := lR us (j + 1) (p - (u.length + 1)) (by rw [vT]; omega)
   exact ⟨i + 1, k, by simpa using hi, by unfold lenP at hk ⊢; simpa using hk, by rw [jP]; omega⟩
theorem posOf_cover {bs : List (List Nat)} {p : Nat} (h : p < (xG bs).length) : ∃ i k, i < bs.length ∧ k ≤ lenP bs i ∧ p = offP bs i + k := lR bs 0 p h
theorem posL_ge : ∀ (bs : List (List Nat)) (j : Nat), ∀ x ∈ posL j bs, j ≤ x.1
 | [], j, x, hx => by simp [posL] at hx
 | u :: us, j, x, hx => by
  rcases List.mem_append.1 hx with hx | hx
  ·obtain ⟨k, _, rfl⟩ := List.mem_map.1 hx; exact Nat.le_refl _
  ·have := posL_ge us (j + 1) x hx; omega
theorem lQ : ∀ (bs : List (List Nat)) (j : Nat), (posL j bs).Nodup
 | [], j => by simp [posL]
 | u :: us, j => by
  rw [posL, List.nodup_append]
  refine ⟨?_, lQ us (j + 1), fun x hx y hy e => ?_⟩
  ·rw [List.Nodup, List.pairwise_map]
   exact (List.nodup_range (n := u.length + 1)).imp fun hne e => hne (by simpa using e)
  ·obtain ⟨k, _, rfl⟩ := List.mem_map.1 hx
   have := posL_ge us (j + 1) y hy
   rw [← e] at this
   have : j + 1 ≤ j := this
   omega
def leP (bs : List (List Nat)) (x : Nat × Nat) (a : Nat) : Bool := decide (x.2 < lenP bs x.1) && (bs.getD x.1 []).getD x.2 0 == a
def stP (x : Nat × Nat) : Bool := decide (x.2 = 0) && decide (0 < x.1)
def enP (bs : List (List Nat)) (x : Nat × Nat) : Bool := decide (x.2 = lenP bs x.1) && decide (x.1 + 1 < bs.length)
def atP (bs : List (List Nat)) (p : Nat) : Nat × Nat := (xG bs).getD p (0, 0)
theorem rP {bs : List (List Nat)} {i k : Nat} (hi : i < bs.length) (hk : k ≤ lenP bs i) : atP bs (offP bs i + k) = (i, k) := by
 unfold atP
 rw [List.getD_eq_getElem?_getD, sZ hi hk]; rfl
def bitP (S : List Bool) (p : Nat) : Bool := S.getD p false
def qT (bs : List (List Nat)) (S : List Bool) (a p : Nat) (t : List Bool) : List Bool :=
 if bitP S p then
  (if stP (atP bs p) then (if leP bs (atP bs p) a then t.set (p + 1) true else t).set p true else (if leP bs (atP bs p) a then t.set (p + 1) true else t))
 else t
def yD (bs : List (List Nat)) (m : Nat) (S : List Bool) (a : Nat) : Nat → List Bool
 | 0 => List.replicate m false
 | p + 1 => qT bs S a p (yD bs m S a p)
def tU (bs : List (List Nat)) (S : List Bool) : Nat → List Bool
 | 0 => S
 | p + 1 => if bitP (tU bs S p) p && enP bs (atP bs p) then (tU bs S p).set (p + 1) true else tU bs S p
theorem wR (bs : List (List Nat)) (m : Nat) (S : List Bool) (a : Nat) : ∀ p, (yD bs m S a p).length = m
 | 0 => by simp [yD]
 | p + 1 => by
  have := wR bs m S a p
  unfold yD qT
  split
  ·split <;> split <;> simp [this]
  ·exact this
theorem vY (bs : List (List Nat)) (S : List Bool) : ∀ p, (tU bs S p).length = S.length
 | 0 => rfl
 | p + 1 => by
  have := vY bs S p
  unfold tU
  split <;> simp [this]
theorem bit_set {t : List Bool} {q p : Nat} (hq : q < t.length) : bitP (t.set q true) p = (decide (q = p) || bitP t p) := by
 unfold bitP
 by_cases e : q = p
 ·subst e
  rw [pJ hq]; simp
 ·rw [mE e]; simp [e]
theorem kD {t : List Bool} {q p : Nat} : bitP (t.set q true) p = (decide (q = p ∧ q < t.length) || bitP t p) := by
 by_cases hq : q < t.length
 ·rw [bit_set hq]; simp [hq]
 ·rw [List.set_eq_of_length_le (by omega)]; simp [hq]
theorem kC (bs : List (List Nat)) {m : Nat} (S : List Bool) (a : Nat) : ∀ q p, p < m → (bitP (yD bs m S a q) p = true ↔ (∃ p', p = p' + 1 ∧ p' < q ∧ bitP S p' = true ∧ leP bs (atP bs p') a = true) ∨ (p < q ∧ bitP S p = true ∧ stP (atP bs p) = true))
 | 0, p, hp => by
  simp [yD, bitP, List.getD, List.getElem?_replicate, hp]
 | q + 1, p, hp => by
  have ih := kC bs S a q p hp
  have hl := wR bs m S a q
  unfold yD qT
  by_cases hS : bitP S q = true
  ·rw [if_pos hS]
   have e1 : bitP (if leP bs (atP bs q) a then (yD bs m S a q).set (q + 1) true else yD bs m S a q) p = true ↔ (p = q + 1 ∧ leP bs (atP bs q) a = true) ∨ bitP (yD bs m S a q) p = true := by
    by_cases hle : leP bs (atP bs q) a = true
    ·rw [if_pos hle, kD]
     simp only [Bool.or_eq_true, decide_eq_true_eq, hl]
     constructor
     ·rintro (⟨h, _⟩ | h)
      ·exact .inl ⟨h.symm, hle⟩
      ·exact .inr h
     ·rintro (⟨h, _⟩ | h)
      ·exact .inl ⟨h.symm, by omega⟩
      ·exact .inr h
    ·rw [if_neg hle]
     constructor
     ·exact .inr
     ·rintro (⟨_, h⟩ | h)
      ·exact absurd h hle
      ·exact h
   have hl2 : (if leP bs (atP bs q) a then (yD bs m S a q).set (q + 1) true else yD bs m S a q).length = m := by split <;> simp [hl]
   have e2 : bitP (if stP (atP bs q) then (if leP bs (atP bs q) a then (yD bs m S a q).set (q + 1) true else yD bs m S a q).set q true else (if leP bs (atP bs q) a then (yD bs m S a q).set (q + 1) true else yD bs m S a q)) p = true ↔ (p = q ∧ stP (atP bs q) = true) ∨ (p = q + 1 ∧ leP bs (atP bs q) a = true) ∨ bitP (yD bs m S a q) p = true := by
    by_cases hst : stP (atP bs q) = true
    ·rw [if_pos hst, kD]
     simp only [Bool.or_eq_true, decide_eq_true_eq, hl2, e1]
     constructor
     ·rintro (⟨h, _⟩ | h)
      ·exact .inl ⟨h.symm, hst⟩
      ·exact .inr h
     ·rintro (⟨h, _⟩ | h)
      ·exact .inl ⟨h.symm, by omega⟩
      ·exact .inr h
    ·rw [if_neg hst, e1]
     constructor
     ·exact .inr
     ·rintro (⟨_, h⟩ | h)
      ·exact absurd h hst
      ·exact h
   rw [e2, ih]
   constructor
   ·rintro (⟨rfl, h⟩ | ⟨rfl, h⟩ | ⟨p', h1, h2, h3⟩ | ⟨h1, h2⟩)
    ·exact .inr ⟨by omega, hS, h⟩
    ·exact .inl ⟨q, rfl, by omega, hS, h⟩
    ·exact .inl ⟨p', h1, by omega, h3⟩
    ·exact .inr ⟨by omega, h2⟩
   ·rintro (⟨p', h1, h2, h3, h4⟩ | ⟨h1, h2, h3⟩)
    ·by_cases e : p' = q
     ·subst e; exact .inr (.inl ⟨h1, h4⟩)
     ·exact .inr (.inr (.inl ⟨p', h1, by omega, h3, h4⟩))
    ·by_cases e : p = q
     ·subst e; exact .inl ⟨rfl, h3⟩
     ·exact .inr (.inr (.inr ⟨by omega, h2, h3⟩))
  ·rw [if_neg hS, ih]
   constructor
   ·rintro (⟨p', h1, h2, h3⟩ | ⟨h1, h2⟩)
    ·exact .inl ⟨p', h1, by omega, h3⟩
    ·exact .inr ⟨by omega, h2⟩
   ·rintro (⟨p', h1, h2, h3, h4⟩ | ⟨h1, h2, h3⟩)
    ·by_cases e : p' = q
     ·subst e; exact absurd h3 hS
     ·exact .inl ⟨p', h1, by omega, h3, h4⟩
    ·by_cases e : p = q
     ·subst e; exact absurd h2 hS
     ·exact .inr ⟨by omega, h2, h3⟩
def sprF (bs : List (List Nat)) (S : List Bool) : Nat → Bool
 | 0 => bitP S 0
 | p + 1 => bitP S (p + 1) || (sprF bs S p && enP bs (atP bs p))
theorem bit_sprTo (bs : List (List Nat)) (S : List Bool) : ∀ q, q < S.length → ∀ p, p < S.length → bitP (tU bs S q) p = if p ≤ q then sprF bs S p else bitP S p
 | 0, _, p, hp => by
  by_cases e : p ≤ 0
  ·rw [if_pos e, show p = 0 by omega]; rfl
  ·rw [if_neg e]; rfl
 | q + 1, hq, p, hp => by
  have ih := bit_sprTo bs S q (by omega)
  have hl := vY bs S q
  have hqq : bitP (tU bs S q) q = sprF bs S q := by rw [ih q (by omega), if_pos (Nat.le_refl q)]
  unfold tU
  rw [hqq]
  by_cases hc : (sprF bs S q && enP bs (atP bs q)) = true
  ·rw [if_pos hc, bit_set (by omega), ih p hp]
   by_cases e : q + 1 = p
   ·subst e
    rw [if_neg (by omega), if_pos (Nat.le_refl _), sprF, hc]; simp
   ·by_cases h2 : p ≤ q
    ·rw [if_pos h2, if_pos (by omega)]; simp [e]
    ·rw [if_neg h2, if_neg (by omega)]; simp [e]
  ·rw [if_neg hc, ih p hp]
   by_cases e : q + 1 = p
   ·subst e
    rw [if_neg (by omega), if_pos (Nat.le_refl _), sprF]
    rw [Bool.not_eq_true] at hc
    rw [hc, Bool.or_false]
   ·by_cases h2 : p ≤ q
    ·rw [if_pos h2, if_pos (by omega)]
    ·rw [if_neg h2, if_neg (by omega)]
theorem spr_last (bs : List (List Nat)) (S : List Bool) (h : 0 < bs.length) (hS : S.length = (xG bs).length) : tU bs S S.length = tU bs S (S.length - 1) := by
 have hm : (xG bs).length = yC bs + bs.length := vT bs 0
 obtain ⟨m, e⟩ : ∃ m, S.length = m + 1 := ⟨S.length - 1, by omega⟩
 rw [e, Nat.add_sub_cancel]
 have hl := vY bs S m
 show (if _ then (tU bs S m).set (m + 1) true else tU bs S m) = _
 split
 ·rw [List.set_eq_of_length_le (by omega)]
 ·rfl
def spr (bs : List (List Nat)) (S : List Bool) : List Bool := tU bs S S.length
theorem oU {bs : List (List Nat)} {S : List Bool} (h : 0 < bs.length) (hS : S.length = (xG bs).length) {p : Nat} (hp : p < S.length) : bitP (spr bs S) p = sprF bs S p := by
 unfold spr
 rw [spr_last bs S h hS, bit_sprTo bs S _ (by omega) p hp, if_pos (by omega)]
def sN (m : Nat) : List Bool := (List.replicate m false).set 0 true
def nxtB (bs : List (List Nat)) (S : List Bool) (a : Nat) : List Bool := spr bs (yD bs (xG bs).length S a (xG bs).length)
def s0B (bs : List (List Nat)) : List Bool := spr bs (sN (xG bs).length)
theorem lJ (bs : List (List Nat)) (S : List Bool) : (spr bs S).length = S.length := vY _ _ _
theorem nxtB_length (bs : List (List Nat)) (S : List Bool) (a : Nat) : (nxtB bs S a).length = (xG bs).length := by rw [nxtB, lJ, wR]
theorem s0B_length (bs : List (List Nat)) : (s0B bs).length = (xG bs).length := by rw [s0B, lJ]; simp [sN]
def PosP (bs : List (List Nat)) : Nat → Nat → List Nat → Prop
 | 0, k, s => s = (bs.getD 0 []).take k
 | i + 1, k, s => ∃ s1 x, s = s1 ++ x ++ (bs.getD (i + 1) []).take k ∧ PosP bs i (lenP bs i) s1
theorem oI {u : List Nat} {k : Nat} (h : k < u.length) : u.take (k + 1) = u.take k ++ [u.getD k 0] := zY (d := 0) h
theorem mI {bs : List (List Nat)} {i k : Nat} (hk : k < lenP bs i) {w : List Nat} {a : Nat} : PosP bs i (k + 1) (w ++ [a]) ↔ PosP bs i k w ∧ (bs.getD i []).getD k 0 = a := by
 unfold lenP at hk
 cases i with
 | zero =>
  show w ++ [a] = _ ↔ w = _ ∧ _
  rw [oI hk]
  constructor
  ·intro h
   obtain ⟨h1, h2⟩ := List.append_inj' h rfl
   exact ⟨h1, by simpa using h2.symm⟩
  ·rintro ⟨rfl, rfl⟩; rfl
 | succ i =>
  constructor
  ·rintro ⟨s1, x, h, hp⟩
   rw [oI hk, ← List.append_assoc] at h
   obtain ⟨h1, h2⟩ := List.append_inj' h rfl
   exact ⟨⟨s1, x, h1, hp⟩, by simpa using h2.symm⟩
  ·rintro ⟨⟨s1, x, rfl, hp⟩, rfl⟩
   exact ⟨s1, x, by rw [oI hk]; simp, hp⟩
theorem posP_loop {bs : List (List Nat)} {i : Nat} {w : List Nat} {a : Nat} : PosP bs (i + 1) 0 (w ++ [a]) ↔ PosP bs (i + 1) 0 w ∨ PosP bs i (lenP bs i) (w ++ [a]) := by
 constructor
 ·rintro ⟨s1, x, h, hp⟩
  rw [List.take_zero, List.append_nil] at h
  rcases List.eq_nil_or_concat x with rfl | ⟨x', b, rfl⟩
  ·rw [List.append_nil] at h
   exact .inr (h ▸ hp)
  ·rw [List.concat_eq_append, ← List.append_assoc] at h
   obtain ⟨h1, _⟩ := List.append_inj' h rfl
   exact .inl ⟨s1, x', by rw [List.take_zero, List.append_nil]; exact h1, hp⟩
 ·rintro (⟨s1, x, h, hp⟩ | hp)
  ·rw [List.take_zero, List.append_nil] at h
   exact ⟨s1, x ++ [a], by rw [List.take_zero, List.append_nil, h]; simp, hp⟩
  ·exact ⟨w ++ [a], [], by simp, hp⟩
theorem posP_nil {bs : List (List Nat)} {i : Nat} : PosP bs (i + 1) 0 [] ↔ PosP bs i (lenP bs i) [] := by
 constructor
 ·rintro ⟨s1, x, h, hp⟩
  rw [List.take_zero, List.append_nil] at h
  have h := h.symm
  rw [List.append_eq_nil_iff] at h
  rw [← h.1]; exact hp
 ·intro hp; exact ⟨[], [], by simp, hp⟩
theorem lO {bs : List (List Nat)} {i k : Nat} (hk : k < lenP bs i) : ¬ PosP bs i (k + 1) [] := by
 unfold lenP at hk
 cases i with
 | zero =>
  intro h
  have h : [] = (bs.getD 0 []).take (k + 1) := h
  have := congrArg List.length h
  rw [List.length_take] at this
  have : 0 = min (k + 1) (bs.getD 0 []).length := this
  omega
 | succ i =>
  rintro ⟨s1, x, h, _⟩
  have := congrArg List.length h
  simp only [List.length_nil, List.length_append, List.length_take] at this
  omega
section
variable {bs : List (List Nat)}
theorem en_end {i : Nat} (hi : i + 1 < bs.length) : enP bs (i, lenP bs i) = true := by simp [enP, hi]
theorem en_in {i k : Nat} (hk : k < lenP bs i) : enP bs (i, k) = false := by
 unfold enP
 have : decide (k = lenP bs i) = false := by rw [decide_eq_false_iff_not]; omega
 simp [this]
theorem pR {i : Nat} (hi : i + 1 < bs.length) : offP bs (i + 1) + 0 = offP bs i + lenP bs i + 1 := by rw [jO (by omega)]
theorem set_mem (h0 : 0 < bs.length) (w : List Nat) : ∀ i k, i < bs.length → k ≤ lenP bs i → (bitP (oF (nxtB bs) (s0B bs) w) (offP bs i + k) = true ↔ PosP bs i k w) := by
 have hind : ∀ (n : Nat) (w : List Nat), w.length = n → ∀ i k, i < bs.length → k ≤ lenP bs i → (bitP (oF (nxtB bs) (s0B bs) w) (offP bs i + k) = true ↔ PosP bs i k w) := by
  intro n
  induction n with
  | zero =>
   intro w hw
   have := List.eq_nil_of_length_eq_zero hw
   subst this
   have hS : (sN (xG bs).length).length = (xG bs).length := by simp [sN]
   have hm : 0 < (xG bs).length := by have : (xG bs).length = yC bs + bs.length := vT bs 0; omega
   have hst : ∀ p, bitP (sN (xG bs).length) p = decide (0 = p) := fun p => by
    rw [sN, bit_set (by simpa using hm)]
    have : bitP (List.replicate (xG bs).length false) p = false := by
     unfold bitP
     rw [List.getD_eq_getElem?_getD, List.getElem?_replicate]; split <;> rfl
    rw [this, Bool.or_false]
   intro i
   induction i with
   | zero =>
    intro k hi hk
    have hp := uH hi hk
    show bitP (s0B bs) _ = true ↔ _
    rw [s0B, oU h0 hS (by rw [hS]; exact hp), wQ, Nat.zero_add]
    cases k with
    | zero => simp [sprF, hst, PosP]
    | succ k =>
     have e := rP hi (show k ≤ lenP bs 0 by omega)
     rw [wQ, Nat.zero_add] at e
     rw [sprF, e, en_in (by omega), hst]
     simp
     exact lO (by omega)
   | succ i ih =>
    intro k hi hk
    have hp := uH hi hk
    show bitP (s0B bs) _ = true ↔ _
    rw [s0B, oU h0 hS (by rw [hS]; exact hp)]
    cases k with
    | zero =>
     have hi' : i < bs.length := by omega
     have e := rP hi' (Nat.le_refl (lenP bs i))
     have ih' := ih (lenP bs i) hi' (Nat.le_refl _)
     have ih' : bitP (s0B bs) (offP bs i + lenP bs i) = true ↔ _ := ih'
     rw [s0B, oU h0 hS (by rw [hS]; exact uH hi' (Nat.le_refl _))] at ih'
     rw [pR hi, sprF, e, en_end hi, hst, posP_nil, ← ih']
     simp
    | succ k =>
     have e := rP hi (show k ≤ lenP bs (i + 1) by omega)
     rw [← Nat.add_assoc, sprF, e, en_in (by omega), hst]
     simp
     exact lO (by omega)
  | succ n ihw =>
   intro w hw
   have hne : w ≠ [] := by intro e; subst e; simp at hw
   obtain ⟨w', a, rfl⟩ : ∃ w' a, w = w' ++ [a] := ⟨w.dropLast, w.getLast hne, (List.dropLast_concat_getLast hne).symm⟩
   have hw' : w'.length = n := by simpa using hw
   have ihw' := ihw w' hw'
   have hwk : oF (nxtB bs) (s0B bs) (w' ++ [a]) = nxtB bs (oF (nxtB bs) (s0B bs) w') a := by simp [oF]
   rw [hwk]
   generalize oF (nxtB bs) (s0B bs) w' = S at ihw'
   have hS : (yD bs (xG bs).length S a (xG bs).length).length = (xG bs).length := wR _ _ _ _ _
   have hbit : ∀ p, p < (xG bs).length → (bitP (yD bs (xG bs).length S a (xG bs).length) p = true ↔ (∃ p', p = p' + 1 ∧ bitP S p' = true ∧ leP bs (atP bs p') a = true) ∨ (bitP S p = true ∧ stP (atP bs p) = true)) := fun p hp => by
    rw [kC bs S a _ p hp]
    constructor
    ·rintro (⟨p', h1, _, h3⟩ | ⟨_, h2⟩)
     ·exact .inl ⟨p', h1, h3⟩
     ·exact .inr h2
    ·rintro (⟨p', h1, h3⟩ | h2)
     ·exact .inl ⟨p', h1, by omega, h3⟩
     ·exact .inr ⟨hp, h2⟩
   intro i
   induction i with
   | zero =>
    intro k hi hk
    have hp := uH hi hk
    show bitP (nxtB bs S a) _ = true ↔ _
    rw [nxtB, oU h0 hS (by rw [hS]; exact hp)]
    cases k with
    | zero =>
     rw [wQ, Nat.zero_add, sprF, hbit 0 (by have := hp; omega)]
     have e := rP hi (Nat.zero_le (lenP bs 0))
     rw [wQ, Nat.zero_add] at e
     rw [e]
     constructor
     ·rintro (⟨p', h, _⟩ | ⟨_, h⟩)
      ·omega
      ·simp [stP] at h
     ·intro h
      have h : w' ++ [a] = (bs.getD 0 []).take 0 := h
      simp at h
    | succ k =>
     have e := rP hi (show k ≤ lenP bs 0 by omega)
     have e2 := rP hi hk
     rw [wQ, Nat.zero_add] at e e2
     rw [wQ, Nat.zero_add, sprF, e, en_in (by omega), Bool.and_false, Bool.or_false, hbit (k + 1) (by rw [wQ, Nat.zero_add] at hp; exact hp), e2, mI (by omega), ← ihw' 0 k hi (by omega), wQ, Nat.zero_add]
     constructor
     ·rintro (⟨p', h1, h2, h3⟩ | ⟨_, h⟩)
      ·have : p' = k := by omega
       subst this
       rw [e] at h3
       simp only [leP, Bool.and_eq_true, beq_iff_eq] at h3
       exact ⟨h2, h3.2⟩
      ·simp [stP] at h
     ·rintro ⟨h1, h2⟩
      refine .inl ⟨k, rfl, h1, ?_⟩
      rw [e]
      simp only [leP, Bool.and_eq_true, beq_iff_eq, decide_eq_true_eq]
      exact ⟨by omega, h2⟩
   | succ i ih =>
    intro k hi hk
    have hp := uH hi hk
    show bitP (nxtB bs S a) _ = true ↔ _
    rw [nxtB, oU h0 hS (by rw [hS]; exact hp)]
    cases k with
    | zero =>
     have hi' : i < bs.length := by omega
     have e := rP hi' (Nat.le_refl (lenP bs i))
     have e2 := rP hi (Nat.zero_le (lenP bs (i + 1)))
     have ih' : bitP (nxtB bs S a) (offP bs i + lenP bs i) = true ↔ _ := ih (lenP bs i) hi' (Nat.le_refl _)
     rw [nxtB, oU h0 hS (by rw [hS]; exact uH hi' (Nat.le_refl _))] at ih'
     have hp2 := hp
     rw [pR hi] at hp2 e2
     have hw2 := ihw' (i + 1) 0 hi (Nat.zero_le _)
     rw [pR hi] at hw2
     rw [pR hi, sprF, e, en_end hi, Bool.and_true, Bool.or_eq_true, ih', hbit _ hp2, e2, posP_loop, ← hw2]
     constructor
     ·rintro ((⟨p', h1, h2, h3⟩ | ⟨h2, _⟩) | h)
      ·have : p' = offP bs i + lenP bs i := by omega
       subst this
       rw [e] at h3
       simp [leP] at h3
      ·exact .inl h2
      ·exact .inr h
     ·rintro (h | h)
      ·exact .inl (.inr ⟨h, by simp [stP]⟩)
      ·exact .inr h
    | succ k =>
     have e := rP hi (show k ≤ lenP bs (i + 1) by omega)
     have e2 := rP hi hk
     have hp2 := hp
     rw [← Nat.add_assoc] at hp2 e2
     rw [← Nat.add_assoc, sprF, e, en_in (by omega), Bool.and_false, Bool.or_false, hbit _ hp2, e2, mI (by omega), ← ihw' (i + 1) k hi (by omega)]
     constructor
     ·rintro (⟨p', h1, h2, h3⟩ | ⟨_, h⟩)
      ·have : p' = offP bs (i + 1) + k := by omega
       subst this
       rw [e] at h3
       simp only [leP, Bool.and_eq_true, beq_iff_eq] at h3
       exact ⟨h2, h3.2⟩
      ·simp [stP] at h
     ·rintro ⟨h1, h2⟩
      refine .inl ⟨offP bs (i + 1) + k, rfl, h1, ?_⟩
      rw [e]
      simp only [leP, Bool.and_eq_true, beq_iff_eq, decide_eq_true_eq]
      exact ⟨by omega, h2⟩
 exact hind w.length w rfl
theorem posP_pat (h0 : 0 < bs.length) (s : List Nat) : ∀ i, i < bs.length → ((∃ s1 r, s = s1 ++ r ∧ PosP bs i (lenP bs i) s1 ∧ TlN (bs.drop (i + 1)) r) ↔ PatN bs s)
 | 0, _ => by
  match bs, h0 with
  | b :: us, _ =>
   constructor
   ·rintro ⟨s1, r, rfl, h1, h2⟩
    have h1 : s1 = b.take b.length := h1
    rw [List.take_length] at h1
    exact ⟨r, by rw [h1], h2⟩
   ·rintro ⟨r, rfl, h⟩
    exact ⟨b, r, rfl, by show b = b.take b.length; rw [List.take_length], h⟩
 | i + 1, hi => by
  rw [← posP_pat h0 s i (by omega)]
  have hd : bs.drop (i + 1) = bs.getD (i + 1) [] :: bs.drop (i + 1 + 1) := by
   rw [List.drop_eq_getElem_cons hi, zI hi]
  constructor
  ·rintro ⟨s1, r, rfl, ⟨t, x, h1, h2⟩, h3⟩
   unfold lenP at h1
   rw [List.take_length] at h1
   exact ⟨t, x ++ bs.getD (i + 1) [] ++ r, by rw [h1]; simp, h2, by rw [hd]; exact ⟨x, r, rfl, h3⟩⟩
  ·rintro ⟨s1, r, rfl, h2, h3⟩
   rw [hd] at h3
   obtain ⟨p, r', rfl, h4⟩ := h3
   exact ⟨s1 ++ p ++ bs.getD (i + 1) [], r', by simp, ⟨s1, p, by unfold lenP; rw [List.take_length], h2⟩, h4⟩
def finP (bs : List (List Nat)) (S : List Bool) : Bool := bitP S (offP bs (bs.length - 1) + lenP bs (bs.length - 1))
theorem finP_pat (h0 : 0 < bs.length) (w : List Nat) : finP bs (oF (nxtB bs) (s0B bs) w) = true ↔ PatN bs w := by
 rw [finP, set_mem h0 w _ _ (by omega) (Nat.le_refl _), ← posP_pat h0 w (bs.length - 1) (by omega), List.drop_eq_nil_of_le (by omega)]
 constructor
 ·intro h; exact ⟨w, [], by simp, h, rfl⟩
 ·rintro ⟨s1, r, rfl, h, h2⟩
  have h2 : r = [] := h2
  rw [h2, List.append_nil]; exact h
end
end Go.Proofs.Ytgbfaggnnfoamaa
