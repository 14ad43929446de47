/- Part 21 of the proof: PatLang, BB0. -/
import Derived.Test.YtjfdomfendbhfaaQb20
set_option linter.unusedVariables false
set_option linter.unusedSimpArgs false
namespace Go.Proofs.Ytjfdomfendbhfaa
def TlN : List (List Nat) → List Nat → Prop
 | [], r => r = []
 | u :: us, r => ∃ p r', r = p ++ u ++ r' ∧ TlN us r'
def PatN : List (List Nat) → List Nat → Prop
 | [], _ => False
 | b :: us, s => ∃ r, s = b ++ r ∧ TlN us r
theorem TlN.more {us : List (List Nat)} {r : List Nat} (p : List Nat) (h0 : us ≠ []) (h : TlN us r) : TlN us (p ++ r) := by
 match us, h0, h with
 | u :: us, _, ⟨q, r', h, ht⟩ => exact ⟨p ++ q, r', by rw [h]; simp only [List.append_assoc], ht⟩
def kmpTo (u t : List Nat) : Nat → Nat
 | 0 => 0
 | l + 1 => if u.take (l + 1) <:+ t then l + 1 else kmpTo u t l
def kmp (u t : List Nat) : Nat := kmpTo u t u.length
theorem kmpTo_le (u t : List Nat) : ∀ l, kmpTo u t l ≤ l
 | 0 => Nat.le_refl _
 | l + 1 => by
  unfold kmpTo
  split
  ·exact Nat.le_refl _
  ·exact Nat.le_succ_of_le (kmpTo_le u t l)
theorem kmpTo_suf (u t : List Nat) : ∀ l, u.take (kmpTo u t l) <:+ t
 | 0 => by simp [kmpTo]
 | l + 1 => by
  unfold kmpTo
  split
  ·assumption
  ·exact kmpTo_suf u t l
theorem kmpTo_max (u t : List Nat) : ∀ l m, m ≤ l → u.take m <:+ t → m ≤ kmpTo u t l
 | 0, m, h, _ => by omega
 | l + 1, m, h, hs => by
  unfold kmpTo
  split
  ·omega
  ·rename_i hn
   have : m ≠ l + 1 := fun e => hn (e ▸ hs)
   exact kmpTo_max u t l m (by omega) hs
theorem rK (u t : List Nat) : kmp u t ≤ u.length := kmpTo_le u t _
theorem sP (u t : List Nat) : u.take (kmp u t) <:+ t := kmpTo_suf u t _
theorem nE {u t : List Nat} {m : Nat} (h : m ≤ u.length) (hs : u.take m <:+ t) : m ≤ kmp u t := kmpTo_max u t _ m h hs
theorem kO {u t : List Nat} : kmp u t = u.length ↔ u <:+ t := by
 constructor
 ·intro h
  have := sP u t
  rwa [h, List.take_length] at this
 ·intro h
  exact Nat.le_antisymm (rK u t) (nE (Nat.le_refl _) (by rwa [List.take_length]))
theorem kmp_nil (u : List Nat) : kmp u [] = 0 := by
 have h := sP u []
 have h1 := List.suffix_nil.1 h
 have h2 := congrArg List.length h1
 rw [List.length_take, List.length_nil] at h2
 have := rK u []
 omega
theorem suffix_snoc {x t : List Nat} {b a : Nat} : x ++ [b] <:+ t ++ [a] ↔ b = a ∧ x <:+ t := by
 constructor
 ·rintro ⟨p, h⟩
  rw [← List.append_assoc] at h
  obtain ⟨h1, h2⟩ := List.append_inj' h rfl
  exact ⟨by simpa using h2, ⟨p, h1⟩⟩
 ·rintro ⟨rfl, p, rfl⟩
  exact ⟨p, by simp⟩
theorem kW {u : List Nat} {l : Nat} (h : l < u.length) : u.take (l + 1) = u.take l ++ [u.getD l 0] := yH (d := 0) h
theorem tX {u t : List Nat} {l a : Nat} (h : l < u.length) : u.take (l + 1) <:+ t ++ [a] ↔ u.getD l 0 = a ∧ u.take l <:+ t := by
 rw [kW h, suffix_snoc]
theorem kmp_snoc (u t : List Nat) (a : Nat) : kmp u (t ++ [a]) = kmp u (u.take (kmp u t) ++ [a]) := by
 refine Nat.le_antisymm ?_ ?_
 ·have hs := sP u (t ++ [a])
  have hl := rK u (t ++ [a])
  generalize kmp u (t ++ [a]) = m at hs hl ⊢
  cases m with
  | zero => exact Nat.zero_le _
  | succ l =>
   obtain ⟨h1, h2⟩ := (tX (by omega)).1 hs
   refine nE hl ((tX (by omega)).2 ⟨h1, ?_⟩)
   have h3 := nE (show l ≤ u.length by omega) h2
   refine List.suffix_of_suffix_length_le h2 (sP u t) ?_
   rw [List.length_take, List.length_take]; omega
 ·refine nE (rK _ _) (List.IsSuffix.trans (sP u _) ?_)
  obtain ⟨p, hp⟩ := sP u t
  refine ⟨p, ?_⟩
  rw [← List.append_assoc, hp]
theorem kmp_go {u : List Nat} {j : Nat} (h : j < u.length) : kmp u (u.take j ++ [u.getD j 0]) = j + 1 := by
 rw [← kW h]
 refine Nat.le_antisymm ?_ (nE h (List.suffix_refl _))
 have h1 := (sP u (u.take (j + 1))).length_le
 have h2 := rK u (u.take (j + 1))
 rw [List.length_take, List.length_take] at h1
 omega
theorem mF {u : List Nat} {j : Nat} (h : j ≤ u.length) : ((u.take j).drop 1).length = j - 1 := by
 rw [List.length_drop, List.length_take]; omega
theorem kmp_back {u : List Nat} {j a : Nat} (h0 : 0 < j) (h : j ≤ u.length) (hn : j = u.length ∨ u.getD j 0 ≠ a) : kmp u (u.take j ++ [a]) = kmp u ((u.take j).drop 1 ++ [a]) := by
 refine Nat.le_antisymm ?_ ?_
 ·have hs := sP u (u.take j ++ [a])
  have hl := rK u (u.take j ++ [a])
  refine nE hl ?_
  have hlen : kmp u (u.take j ++ [a]) ≤ j := by
   apply Classical.byContradiction
   intro hgt
   have h1 := hs.length_le
   rw [List.length_take, List.length_append, List.length_take] at h1
   simp only [List.length_singleton] at h1
   have e : kmp u (u.take j ++ [a]) = j + 1 := by omega
   rw [e] at hs
   have := ((tX (by omega)).1 hs).1
   rcases hn with hn | hn
   ·omega
   ·exact hn this
  refine List.suffix_of_suffix_length_le hs (?_ : (u.take j).drop 1 ++ [a] <:+ u.take j ++ [a]) ?_
  ·refine ⟨(u.take j).take 1, ?_⟩
   rw [← List.append_assoc, List.take_append_drop]
  ·rw [List.length_take, List.length_append, mF h]
   simp only [List.length_singleton]
   omega
 ·refine nE (rK _ _) ((sP u _).trans ?_)
  refine ⟨(u.take j).take 1, ?_⟩
  rw [← List.append_assoc, List.take_append_drop]
def oJ (u : List Nat) (j : Nat) : Nat := kmp u ((u.take j).drop 1)
theorem backK_lt {u : List Nat} {j : Nat} (h0 : 0 < j) (h : j ≤ u.length) : oJ u j < j := by
 have h1 := (sP u ((u.take j).drop 1)).length_le
 have h2 := rK u ((u.take j).drop 1)
 rw [mF h, List.length_take] at h1
 unfold oJ
 omega
theorem backK_one {u : List Nat} (h : 1 ≤ u.length) : oJ u 1 = 0 := by have := backK_lt (u := u) (j := 1) (by omega) h; omega
theorem backK_next {u : List Nat} {j : Nat} (h0 : 0 < j) (h : j < u.length) : oJ u (j + 1) = kmp u (u.take (oJ u j) ++ [u.getD j 0]) := by
 unfold oJ
 rw [kW h, ← kmp_snoc]
 congr 1
 rw [List.drop_append_of_le_length (by rw [List.length_take]; omega)]
theorem kmp_fall {u : List Nat} {j a : Nat} (h0 : 0 < j) (h : j ≤ u.length) (hn : j = u.length ∨ u.getD j 0 ≠ a) : kmp u (u.take j ++ [a]) = kmp u (u.take (oJ u j) ++ [a]) := by
 rw [kmp_back h0 h hn, kmp_snoc]; rfl
theorem kmp_zero {u : List Nat} {a : Nat} (hn : u = [] ∨ u.getD 0 0 ≠ a) : kmp u (u.take 0 ++ [a]) = 0 := by
 have hs := sP u (u.take 0 ++ [a])
 have hl := rK u (u.take 0 ++ [a])
 have h1 := hs.length_le
 rw [List.length_take] at h1
 simp only [List.take_zero, List.nil_append, List.length_singleton] at h1 hs hl ⊢
 rcases hn with rfl | hn
 ·simpa using hl
 ·apply Classical.byContradiction
  intro h0
  have e : kmp u [a] = 0 + 1 := by omega
  rw [e] at hs
  exact hn ((tX (t := []) (by omega)).1 hs).1
def BRows (d : DfaV) (k c : Nat) (u : List Nat) (m : Nat) : Prop := ∀ j a, j < m → a < k → nx d (c + j) a = c + kmp u (u.take j ++ [a])
theorem run_kmp {d : DfaV} {k c : Nat} {u : List Nat} {m : Nat} (h : BRows d k c u m) (hm : u.length ≤ m) : ∀ (n : Nat) (t : List Nat), t.length = n → yD k t → (∀ t1 a t2, t = t1 ++ a :: t2 → kmp u t1 < m) → run d c t = c + kmp u t
 | 0, t, hl, _, _ => by
  have := List.eq_nil_of_length_eq_zero hl
  subst this
  rw [kmp_nil]; rfl
 | n + 1, t, hl, hw, hn => by
  have hne : t ≠ [] := by intro e; subst e; simp at hl
  have e := (List.dropLast_concat_getLast hne).symm
  have hlt : t.dropLast.length = n := by rw [List.length_dropLast]; omega
  rw [e] at hw hn ⊢
  have h1 := run_kmp h hm n t.dropLast hlt (fun a ha => hw a (List.mem_append_left _ ha)) (fun t1 a t2 e2 => hn t1 a (t2 ++ [t.getLast hne]) (by rw [e2]; simp))
  rw [run_snoc, h1, h _ _ (hn _ _ [] rfl) (hw _ (by simp)), ← kmp_snoc]
def mK (d : DfaV) (k : Nat) : Nat → List (List Nat) → Nat → Prop
 | c, [], F => c = F ∧ ∀ a, a < k → nx d c a = 0
 | c, [v], F => F = c + v.length ∧ BRows d k c v (v.length + 1)
 | c, u :: v :: us, F => u ≠ [] ∧ BRows d k c u u.length ∧ mK d k (c + u.length) (v :: us) F
theorem mK.le {d : DfaV} {k : Nat} : ∀ {us : List (List Nat)} {c F : Nat}, mK d k c us F → c ≤ F
 | [], c, F, h => Nat.le_of_eq h.1
 | [v], c, F, h => by have := h.1; omega
 | u :: v :: us, c, F, h => by have := mK.le h.2.2; omega
theorem first_end (u r : List Nat) : (∀ t, t <+: r → ¬ u <:+ t) ∨ ∃ t r', r = t ++ r' ∧ u <:+ t ∧ ∀ t1 a t2, t = t1 ++ a :: t2 → ¬ u <:+ t1 := by
 by_cases h : ∃ l, u <:+ r.take l
 ·have key : ∀ n l, l ≤ n → u <:+ r.take l → ∃ l, u <:+ r.take l ∧ ∀ m, m < l → ¬ u <:+ r.take m := fun n => by
   induction n with
   | zero => intro l hl hu; exact ⟨l, hu, fun m hm => by omega⟩
   | succ n ih =>
    intro l hl hu
    by_cases h2 : ∃ m, m < l ∧ u <:+ r.take m
    ·obtain ⟨m, hm, hu2⟩ := h2
     exact ih m (by omega) hu2
    ·exact ⟨l, hu, fun m hm hu2 => h2 ⟨m, hm, hu2⟩⟩
  obtain ⟨l0, hl0⟩ := h
  obtain ⟨l, hf, hm⟩ := key l0 l0 (Nat.le_refl _) hl0
  refine .inr ⟨r.take l, r.drop l, (List.take_append_drop l r).symm, hf, fun t1 a t2 e hs => ?_⟩
  have hl : t1.length < l := by
   have := congrArg List.length e
   rw [List.length_take, List.length_append, List.length_cons] at this
   omega
  refine hm _ hl ?_
  have : r.take t1.length = t1 := by
   have e2 : (r.take l).take t1.length = t1 := by rw [e, List.take_left]
   rwa [List.take_take, Nat.min_eq_left (by omega)] at e2
  rwa [this]
 ·refine .inl fun t ht hs => h ⟨t.length, ?_⟩
  rwa [← List.prefix_iff_eq_take.1 ht]
theorem run_sink {d : DfaV} {k : Nat} (h : ∀ a, a < k → nx d 0 a = 0) : ∀ (w : List Nat), yD k w → run d 0 w = 0
 | [], _ => rfl
 | a :: w, hw => by
  show run d (nx d 0 a) w = 0
  rw [h a (hw a (by simp))]
  exact run_sink h w (fun b hb => hw b (List.mem_cons_of_mem _ hb))
theorem tail_acc {d : DfaV} {k : Nat} (h0 : ∀ a, a < k → nx d 0 a = 0) : ∀ {us : List (List Nat)} {c F : Nat}, 0 < F → mK d k c us F → ∀ r, yD k r → (run d c r = F ↔ TlN us r)
 | [], c, F, hF, h, r, hr => by
  obtain ⟨rfl, h⟩ := h
  cases r with
  | nil => exact ⟨fun _ => rfl, fun _ => rfl⟩
  | cons a r =>
   constructor
   ·intro e
    have : run d (nx d c a) r = c := e
    rw [h a (hr a (by simp)), run_sink h0 r (fun b hb => hr b (List.mem_cons_of_mem _ hb))] at this
    omega
   ·intro e; cases e
 | [v], c, F, hF, h, r, hr => by
  obtain ⟨rfl, h⟩ := h
  rw [run_kmp h (by omega) r.length r rfl hr (fun t1 a t2 _ => by have := rK v t1; omega)]
  have e : c + kmp v r = c + v.length ↔ kmp v r = v.length := by omega
  rw [e, kO]
  constructor
  ·rintro ⟨p, rfl⟩; exact ⟨p, [], by simp, rfl⟩
  ·rintro ⟨p, r', rfl, rfl⟩; exact ⟨p, by simp⟩
 | u :: v :: us, c, F, hF, h, r, hr => by
  obtain ⟨hu, hb, ht⟩ := h
  have hle := mK.le ht
  rcases first_end u r with hno | ⟨t, r', rfl, hs, hmin⟩
  ·have hlt : ∀ t, t <+: r → kmp u t < u.length := fun t ht => by
    have := rK u t
    have : kmp u t ≠ u.length := fun e => hno t ht (kO.1 e)
    omega
   rw [run_kmp hb (Nat.le_refl _) r.length r rfl hr (fun t1 a t2 e => hlt t1 ⟨a :: t2, e.symm⟩)]
   have := hlt r (List.prefix_refl r)
   constructor
   ·intro e; omega
   ·rintro ⟨p, q, e, _⟩
    exact absurd ⟨p, rfl⟩ (hno (p ++ u) ⟨q, e.symm⟩)
  ·have hk : ∀ t1 a t2, t = t1 ++ a :: t2 → kmp u t1 < u.length := fun t1 a t2 e => by
    have := rK u t1
    have : kmp u t1 ≠ u.length := fun e2 => hmin t1 a t2 e (kO.1 e2)
    omega
   have hwt : yD k t := fun a ha => hr a (List.mem_append_left _ ha)
   have hwr : yD k r' := fun a ha => hr a (List.mem_append_right _ ha)
   rw [run_append, run_kmp hb (Nat.le_refl _) t.length t rfl hwt hk, kO.2 hs, tail_acc h0 hF ht r' hwr]
   constructor
   ·intro h
    obtain ⟨p, rfl⟩ := hs
    exact ⟨p, r', rfl, h⟩
   ·rintro ⟨p, q, e, h⟩
    -- the first place is not behind this one
    have hlen : t.length ≤ (p ++ u).length := by
     apply Classical.byContradiction
     intro hlt
     have e1 : p ++ u = t.take (p ++ u).length := by
      have := congrArg (List.take (p ++ u).length) e
      rw [List.take_left, List.take_append_of_le_length (by omega)] at this
      exact this.symm
     have e2 : t = (p ++ u) ++ t.drop (p ++ u).length := by
      conv => lhs; rw [← List.take_append_drop (p ++ u).length t]
      rw [← e1]
     cases hd : t.drop (p ++ u).length with
     | nil => have := congrArg List.length hd; rw [List.length_drop] at this; simp at this; simp at hlt; omega
     | cons a t2 =>
      rw [hd] at e2
      exact hmin (p ++ u) a t2 e2 ⟨p, rfl⟩
    have e3 : r' = (p ++ u).drop t.length ++ q := by
     have := congrArg (List.drop t.length) e
     rw [List.drop_left, List.drop_append_of_le_length hlen] at this
     exact this
    rw [e3]
    exact h.more _ (by simp)
def PRows (d : DfaV) (k : Nat) (b : List Nat) : Prop := ∀ j a, j < b.length → a < k → nx d (1 + j) a = if b.getD j 0 = a then 2 + j else 0
theorem run_prefix {d : DfaV} {k : Nat} {b : List Nat} (h0 : ∀ a, a < k → nx d 0 a = 0) (h : PRows d k b) : ∀ (m j : Nat), b.length - j = m → j ≤ b.length → ∀ s, yD k s →
  (∃ r, s = b.drop j ++ r ∧ run d (1 + j) s = run d (1 + b.length) r) ∨ ((¬ ∃ r, s = b.drop j ++ r) ∧ run d (1 + j) s < 1 + b.length)
 | 0, j, hm, hj, s, hs => .inl ⟨s, by rw [show j = b.length by omega]; simp, by rw [show j = b.length by omega]⟩
 | m + 1, j, hm, hj, s, hs => by
  have hd : b.drop j = b.getD j 0 :: b.drop (j + 1) := by
   rw [List.drop_eq_getElem_cons (show j < b.length by omega), zI (show j < b.length by omega)]
  cases s with
  | nil =>
   refine .inr ⟨?_, ?_⟩
   ·rintro ⟨r, e⟩; rw [hd] at e; cases e
   ·show 1 + j < _; omega
  | cons a s =>
   have ha : a < k := hs a (by simp)
   have hs' : yD k s := fun b hb => hs b (List.mem_cons_of_mem _ hb)
   have e1 : run d (1 + j) (a :: s) = run d (nx d (1 + j) a) s := rfl
   rw [e1, h j a (by omega) ha]
   by_cases e : b.getD j 0 = a
   ·rw [if_pos e]
    rcases run_prefix h0 h m (j + 1) (by omega) (by omega) s hs' with ⟨r, e2, e3⟩ | ⟨h1, h2⟩
    ·refine .inl ⟨r, by rw [hd, e, e2]; rfl, ?_⟩
     rw [← e3, show 2 + j = 1 + (j + 1) by omega]
    ·refine .inr ⟨?_, by rw [show 2 + j = 1 + (j + 1) by omega]; exact h2⟩
     rintro ⟨r, e2⟩
     rw [hd] at e2
     simp only [List.cons_append, List.cons.injEq] at e2
     exact h1 ⟨r, e2.2⟩
   ·rw [if_neg e, run_sink h0 s hs']
    refine .inr ⟨?_, by omega⟩
    rintro ⟨r, e2⟩
    rw [hd] at e2
    simp only [List.cons_append, List.cons.injEq] at e2
    exact e e2.1.symm
theorem pat_run {d : DfaV} {k F : Nat} {b : List Nat} {us : List (List Nat)} (h0 : ∀ a, a < k → nx d 0 a = 0) (hp : PRows d k b) (ht : mK d k (1 + b.length) us F) (s : List Nat) (hs : yD k s) : run d 1 s = F ↔ PatN (b :: us) s := by
 have hF := ht.le
 rcases run_prefix h0 hp _ 0 rfl (Nat.zero_le _) s hs with ⟨r, e, e2⟩ | ⟨h1, h2⟩
 ·rw [List.drop_zero] at e
  subst e
  rw [show (1 : Nat) = 1 + 0 by rfl, e2, tail_acc h0 (by omega) ht r (fun a ha => hs a (List.mem_append_right _ ha))]
  exact ⟨fun h => ⟨r, rfl, h⟩, fun ⟨q, e, h⟩ => by rw [List.append_cancel_left e]; exact h⟩
 ·rw [List.drop_zero] at h1
  constructor
  ·intro e; rw [show (1 : Nat) + 0 = 1 by rfl] at h2; omega
  ·rintro ⟨r, e, _⟩; exact absurd ⟨r, e⟩ h1
def kmpRow (k c : Nat) (u : List Nat) (j : Nat) : List Int := (List.range k).map fun a => ((c + kmp u (u.take j ++ [a]) : Nat) : Int)
def xA (k c : Nat) (u : List Nat) (m : Nat) : List (List Int) := (List.range m).map (kmpRow k c u)
def preRow (k : Nat) (b : List Nat) (j : Nat) : List Int := (List.range k).map fun a => ((if b.getD j 0 = a then 2 + j else 0 : Nat) : Int)
def uN (k : Nat) (b : List Nat) (m : Nat) : List (List Int) := (List.range m).map (preRow k b)
def xM (k : Nat) : Nat → List (List Nat) → List (List Int)
 | _, [] => [List.replicate k 0]
 | c, [v] => xA k c v (v.length + 1)
 | c, u :: v :: us => xA k c u u.length ++ xM k (c + u.length) (v :: us)
def uP (k : Nat) (bs : List (List Nat)) : List (List Int) := match bs with
 | [] => []
 | b :: us => List.replicate k 0 :: (uN k b b.length ++ xM k (1 + b.length) us)
def patD (k : Nat) (bs : List (List Nat)) : DfaV := ⟨k, 1, List.replicate ((uP k bs).length - 1) false ++ [true], uP k bs⟩
def yM (us : List (List Nat)) : Nat := (us.map List.length).sum
theorem uI (k : Nat) : ∀ (us : List (List Nat)) (c : Nat), (xM k c us).length = yM us + 1
 | [], c => rfl
 | [v], c => by simp [xM, xA, yM]
 | u :: v :: us, c => by
  have := uI k (v :: us) (c + u.length)
  simp only [xM, List.length_append, this, xA, List.length_map, List.length_range, yM, List.map_cons, List.sum_cons]
  omega
theorem rS (k : Nat) (b : List Nat) (us : List (List Nat)) : (uP k (b :: us)).length = 2 + b.length + yM us := by
 simp only [uP, List.length_cons, List.length_append, uI, uN, List.length_map, List.length_range]; omega
theorem yZ {α : Type} (f : Nat → α) {m i : Nat} (h : i < m) (x : α) : ((List.range m).map f).getD i x = f i := by
 rw [zI (by simpa using h)]; simp
theorem xY {α : Type} {l m : List α} {i : Nat} (x : α) : (l ++ m).getD (l.length + i) x = m.getD i x := by
 simp only [List.getD_eq_getElem?_getD]
 rw [List.getElem?_append_right (by omega)]
 congr 2; omega
theorem yK {α : Type} {l m : List α} {i : Nat} (h : i < l.length) (x : α) : (l ++ m).getD i x = l.getD i x := by
 simp only [List.getD_eq_getElem?_getD]
 rw [List.getElem?_append_left h]
def From (d : DfaV) (c : Nat) (l : List (List Int)) : Prop := ∀ i, i < l.length → d.next.getD (c + i) [] = l.getD i []
theorem From.nx {d : DfaV} {c : Nat} {l : List (List Int)} (h : From d c l) {i : Nat} (hi : i < l.length) (a : Nat) : nx d (c + i) a = ((l.getD i []).getD a 0).toNat := by
 unfold Go.Proofs.Ytjfdomfendbhfaa.nx entN
 show (ent d.next (c + i) a).toNat = _
 unfold ent
 rw [h i hi]
theorem From.left {d : DfaV} {c : Nat} {l m : List (List Int)} (h : From d c (l ++ m)) : From d c l := fun i hi => by
 rw [h i (by rw [List.length_append]; omega), yK hi]
theorem From.right {d : DfaV} {c : Nat} {l m : List (List Int)} (h : From d c (l ++ m)) : From d (c + l.length) m := fun i hi => by
 have := h (l.length + i) (by rw [List.length_append]; omega)
 rw [xY] at this
 rw [← this]; congr 1; omega
theorem mV {k c j a : Nat} {u : List Nat} (h : a < k) : (kmpRow k c u j).getD a 0 = ((c + kmp u (u.take j ++ [a]) : Nat) : Int) := yZ _ h _
theorem From.block {d : DfaV} {k c : Nat} {u : List Nat} {m : Nat} (h : From d c (xA k c u m)) : BRows d k c u m := fun j a hj ha => by
 rw [h.nx (by simpa [xA] using hj), xA, yZ _ hj, mV ha]; omega
theorem From.tail {d : DfaV} {k : Nat} : ∀ {us : List (List Nat)} {c : Nat}, From d c (xM k c us) → (∀ u ∈ us.dropLast, u ≠ []) → mK d k c us (c + yM us)
 | [], c, h, _ => ⟨rfl, fun a ha => by
  have := h.nx (i := 0) (by simp [xM]) a
  simpa [xM, List.getD, List.getElem?_replicate, ha] using this⟩
 | [v], c, h, _ => ⟨by simp [yM], From.block h⟩
 | u :: v :: us, c, h, hne => by
  refine ⟨hne u (by simp), From.block (From.left h), ?_⟩
  have h2 := From.right h
  rw [show (xA k c u u.length).length = u.length by simp [xA]] at h2
  have := From.tail h2 (fun w hw => hne w (by rw [List.dropLast_cons_of_ne_nil (by simp)]; exact List.mem_cons_of_mem _ hw))
  rwa [show c + yM (u :: v :: us) = c + u.length + yM (v :: us) by simp [yM]; omega]
theorem pat_from (k : Nat) (b : List Nat) (us : List (List Nat)) : From (patD k (b :: us)) 1 (uN k b b.length ++ xM k (1 + b.length) us) := fun i hi => by
 show (uP k (b :: us)).getD (1 + i) [] = _
 unfold uP
 rw [Nat.add_comm]
 rfl
theorem pat_pre (k : Nat) (b : List Nat) (us : List (List Nat)) : PRows (patD k (b :: us)) k b := fun j a hj ha => by
 rw [(pat_from k b us).left.nx (by simpa [uN] using hj), uN, yZ _ hj, preRow, yZ _ ha]; omega
theorem pat_sink (k : Nat) (b : List Nat) (us : List (List Nat)) : ∀ a, a < k → nx (patD k (b :: us)) 0 a = 0 := fun a ha => by
 show (((List.replicate k (0 : Int)).getD a 0)).toNat = 0
 simp [List.getD, List.getElem?_replicate, ha]
theorem pat_tail (k : Nat) (b : List Nat) (us : List (List Nat)) (h : ∀ u ∈ us.dropLast, u ≠ []) : mK (patD k (b :: us)) k (1 + b.length) us (1 + b.length + yM us) := by
 have := (pat_from k b us).right
 rw [show (uN k b b.length).length = b.length by simp [uN]] at this
 exact From.tail this h
theorem pat_final {k : Nat} {b : List Nat} {us : List (List Nat)} {q : Nat} : (patD k (b :: us)).final.getD q false = decide (q = 1 + b.length + yM us) := by
 show (List.replicate ((uP k (b :: us)).length - 1) false ++ [true]).getD q false = _
 rw [rS, show 2 + b.length + yM us - 1 = 1 + b.length + yM us by omega]
 generalize 1 + b.length + yM us = m
 simp only [List.getD_eq_getElem?_getD]
 rcases Nat.lt_trichotomy q m with h | rfl | h
 ·rw [List.getElem?_append_left (by simpa using h), List.getElem?_replicate, if_pos h, decide_eq_false (by omega)]; rfl
 ·rw [List.getElem?_append_right (by simp)]; simp
 ·rw [List.getElem?_append_right (by simp; omega), decide_eq_false (by omega)]
  rw [List.length_replicate, List.getElem?_eq_none (by simp; omega)]; rfl
theorem kY (k : Nat) : ∀ (us : List (List Nat)) (c i : Nat), i < (xM k c us).length → ((xM k c us).getD i []).length = k ∧ ∀ a, a < k → 0 ≤ ((xM k c us).getD i []).getD a 0 ∧ ((xM k c us).getD i []).getD a 0 ≤ ((c + yM us : Nat) : Int)
 | [], c, i, h => by
  have : i = 0 := by simpa [xM] using h
  subst this
  refine ⟨by simp [xM], fun a ha => ?_⟩
  simp [xM, List.getD, List.getElem?_replicate, ha]
  omega
 | [v], c, i, h => by
  simp only [xM, xA, List.length_map, List.length_range] at h ⊢
  rw [yZ _ h]
  refine ⟨by simp [kmpRow], fun a ha => ?_⟩
  rw [mV ha]
  have := rK v (v.take i ++ [a])
  simp only [yM, List.map_cons, List.map_nil, List.sum_cons, List.sum_nil]
  omega
 | u :: v :: us, c, i, h => by
  simp only [xM] at h ⊢
  have hl : (xA k c u u.length).length = u.length := by simp [xA]
  by_cases hi : i < u.length
  ·rw [yK (by omega), xA, yZ _ hi]
   refine ⟨by simp [kmpRow], fun a ha => ?_⟩
   rw [mV ha]
   have := rK u (u.take i ++ [a])
   simp only [yM, List.map_cons, List.sum_cons]
   omega
  ·have e : i = (xA k c u u.length).length + (i - u.length) := by omega
   rw [e, xY]
   have := kY k (v :: us) (c + u.length) (i - u.length) (by rw [List.length_append] at h; omega)
   rwa [show c + yM (u :: v :: us) = c + u.length + yM (v :: us) by simp [yM]; omega]
theorem pat_vd {k : Nat} {b : List Nat} {us : List (List Nat)} (h1 : 1 ≤ k) (h6 : k ≤ 6) (hl : b.length + yM us ≤ 64) : VD (patD k (b :: us)) (2 + b.length + yM us) k := by
 have hn := rS k b us
 have key : ∀ q, q < 2 + b.length + yM us → ((patD k (b :: us)).next.getD q []).length = k ∧ ∀ a, a < k → 0 ≤ ((patD k (b :: us)).next.getD q []).getD a 0 ∧ ((patD k (b :: us)).next.getD q []).getD a 0 < ((2 + b.length + yM us : Nat) : Int) := by
  intro q hq
  cases q with
  | zero =>
   refine ⟨by simp [patD, uP], fun a ha => ?_⟩
   simp [patD, uP, List.getD, List.getElem?_replicate, ha]
   omega
  | succ q =>
   have e := pat_from k b us q (by rw [List.length_append, uI]; simp [uN]; omega)
   rw [Nat.add_comm] at e
   rw [e]
   have hpl : (uN k b b.length).length = b.length := by simp [uN]
   by_cases hi : q < b.length
   ·rw [yK (by omega), uN, yZ _ hi]
    refine ⟨by simp [preRow], fun a ha => ?_⟩
    rw [preRow, yZ _ ha]
    split <;> omega
   ·rw [show q = (uN k b b.length).length + (q - b.length) by omega, xY]
    have := kY k us (1 + b.length) (q - b.length) (by rw [uI]; omega)
    refine ⟨this.1, fun a ha => ?_⟩
    have := this.2 a ha
    omega
 exact ⟨rfl, h1, h6, by show (List.replicate _ false ++ [true]).length = _; rw [List.length_append, List.length_replicate, hn]; simp; omega, by omega, by omega, hn, by show (0 : Int) ≤ 1; omega, by show (1 : Int) < _; omega, fun q hq => (key q hq).1, fun q a hq ha => ((key q hq).2 a ha).1, fun q a hq ha => ((key q hq).2 a ha).2⟩
theorem pat_acc {k : Nat} {b : List Nat} {us : List (List Nat)} (hne : ∀ u ∈ us.dropLast, u ≠ []) {s : List Nat} (hs : yD k s) : acc (patD k (b :: us)) (st0 (patD k (b :: us))) s = true ↔ PatN (b :: us) s := by
 unfold acc
 rw [pat_final, decide_eq_true_eq]
 exact pat_run (pat_sink k b us) (pat_pre k b us) (pat_tail k b us hne) s hs
end Go.Proofs.Ytjfdomfendbhfaa
namespace Go.Proofs.Ytjfdomfendbhfaa
open Go.RowKit
theorem getD_memN {gs : List Nat} {i : Nat} (h : i < gs.length) : gs.getD i 0 ∈ gs := by rw [zI h]; exact List.getElem_mem h
theorem nodupN_getD {gs : List Nat} (hn : gs.Nodup) {i j : Nat} (hi : i < gs.length) (hj : j < gs.length) (e : gs.getD i 0 = gs.getD j 0) : i = j := by
 rw [zI hi, zI hj] at e
 rw [← hn.idxOf_getElem i hi, e, hn.idxOf_getElem j hj]
theorem set_getD_same {α : Type} {l : List α} {i : Nat} {x y : α} (h : i < l.length) : (l.set i x).getD i y = x := by
 rw [zI (by simpa using h)]; simp
theorem set_getD_ne {α : Type} {l : List α} {i j : Nat} {x y : α} (h : i ≠ j) : (l.set i x).getD j y = l.getD j y := by
 simp only [List.getD_eq_getElem?_getD]
 rw [List.getElem?_set_ne h]
theorem pG {α : Type} {l : List α} {x y : α} {n : Nat} (h : n = l.length) : (l ++ [x]).getD n y = x := by
 subst h
 rw [zI (by simp)]; simp
theorem snoc_set {α : Type} {l : List α} {x y : α} {n : Nat} (h : n = l.length) : (l ++ [x]).set n y = l ++ [y] := by
 subst h
 rw [List.set_append_right _ _ (Nat.le_refl _), Nat.sub_self]; rfl
def zK (s : ByteArray) : List Nat := s.data.toList.map fun c => c.toNat - 97
theorem yP (s : ByteArray) : (zK s).length = s.size := by simp [zK]
theorem qQ {s : ByteArray} {i : Nat} (h : i < s.size) : (zK s).getD i 0 = s[i].toNat - 97 := by
 rw [zI (by rw [yP]; exact h)]
 simp [zK]; rfl
theorem okByte_iff {k : Nat} {c : UInt8} : rH (k : Int) c = true ↔ 97 ≤ c.toNat ∧ c.toNat - 97 < k := by
 unfold rH
 rw [decide_eq_true_eq]; omega
theorem uA {s : ByteArray} {k : Nat} (h : zU s (k : Int) = true) : yD k (zK s) ∧ (∀ i (hi : i < s.size), 97 ≤ s[i].toNat ∧ s[i].toNat - 97 < k) ∧ s.size ≤ 2048 := by
 simp only [zU, Bool.and_eq_true, decide_eq_true_eq, List.all_eq_true] at h
 refine ⟨fun a ha => ?_, fun i hi => ?_, h.1.2.2⟩
 ·obtain ⟨c, hc, rfl⟩ := List.mem_map.1 ha
  exact (okByte_iff.1 (h.2 c hc)).2
 ·have hm : s[i] ∈ s.data.toList := by
   have : s[i] = s.data.toList[i]'(by simpa using hi) := by simp; rfl
   rw [this]; exact List.getElem_mem _
  exact okByte_iff.1 (h.2 _ hm)
theorem u8_sub {c : Nat} (h : 97 ≤ c) (h2 : c < 256) : IntKind.u8.wrap ((c : Int) - 97) = ((c - 97 : Nat) : Int) := by
 unfold IntKind.wrap; simp [IntKind.bits, IntKind.signed]; omega
theorem byte_facts0 {u : ByteArray} {k i : Nat} (h : ∀ i (hi : i < u.size), 97 ≤ u[i].toNat ∧ u[i].toNat - 97 < k) (hi : i < u.size) : ∃ b a : Nat, (u[i].toNat : Int) = (b : Int) ∧ IntKind.u8.wrap ((b : Int) - 97) = (a : Int) ∧ ((b : Int) - 97) % 256 = (a : Int) ∧ a < k ∧ (zK u).getD i 0 = a := by
 have hb := h i hi
 have h256 : u[i].toNat < 256 := u[i].toNat_lt
 exact ⟨u[i].toNat, u[i].toNat - 97, rfl, u8_sub hb.1 h256, by omega, hb.2, qQ hi⟩
end Go.Proofs.Ytjfdomfendbhfaa
