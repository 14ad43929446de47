/- Part 22 of the proof: PatLang. -/
import Derived.Test.YtjfdomfendbhfaaQa21
set_option linter.unusedVariables false
set_option linter.unusedSimpArgs false
namespace Go.Proofs.Ytjfdomfendbhfaa
def TlN : List (List Nat) → List Nat → Prop
 | [], r => r = []
 | u :: us, r => ∃ p r', r = p ++ u ++ r' ∧ TlN us r'
def PatN : List (List Nat) → List Nat → Prop
 | [], _ => False
 | b :: us, s => ∃ r, s = b ++ r ∧ TlN us r
theorem TlN.more {us : List (List Nat)} {r : List Nat} (p : List Nat) (h0 : us ≠ []) (h : TlN us r) : TlN us (p ++ r) := by
 match us, h0, h with
 | u :: us, _, ⟨q, r', h, ht⟩ => exact ⟨p ++ q, r', by rw [h]; simp only [List.append_assoc], ht⟩
def kmpTo (u t : List Nat) : Nat → Nat
 | 0 => 0
 | l + 1 => if u.take (l + 1) <:+ t then l + 1 else kmpTo u t l
def kmp (u t : List Nat) : Nat := kmpTo u t u.length
theorem kmpTo_le (u t : List Nat) : ∀ l, kmpTo u t l ≤ l
 | 0 => Nat.le_refl _
 | l + 1 => by
  unfold kmpTo
  split
  ·exact Nat.le_refl _
  ·exact Nat.le_succ_of_le (kmpTo_le u t l)
theorem kmpTo_suf (u t : List Nat) : ∀ l, u.take (kmpTo u t l) <:+ t
 | 0 => by simp [kmpTo]
 | l + 1 => by
  unfold kmpTo
  split
  ·assumption
  ·exact kmpTo_suf u t l
theorem kmpTo_max (u t : List Nat) : ∀ l m, m ≤ l → u.take m <:+ t → m ≤ kmpTo u t l
 | 0, m, h, _ => by omega
 | l + 1, m, h, hs => by
  unfold kmpTo
  split
  ·omega
  ·rename_i hn
   have : m ≠ l + 1 := fun e => hn (e ▸ hs)
   exact kmpTo_max u t l m (by omega) hs
theorem tM (u t : List Nat) : kmp u t ≤ u.length := kmpTo_le u t _
theorem uV (u t : List Nat) : u.take (kmp u t) <:+ t := kmpTo_suf u t _
theorem pB {u t : List Nat} {m : Nat} (h : m ≤ u.length) (hs : u.take m <:+ t) : m ≤ kmp u t := kmpTo_max u t _ m h hs
theorem nW {u t : List Nat} : kmp u t = u.length ↔ u <:+ t := by
 constructor
 ·intro h
  have := uV u t
  rwa [h, List.take_length] at this
 ·intro h
  exact Nat.le_antisymm (tM u t) (pB (Nat.le_refl _) (by rwa [List.take_length]))
theorem kmp_nil (u : List Nat) : kmp u [] = 0 := by
 have h := uV u []
 have h1 := List.suffix_nil.1 h
 have h2 := congrArg List.length h1
 rw [List.length_take, List.length_nil] at h2
 have := tM u []
 omega
theorem suffix_snoc {x t : List Nat} {b a : Nat} : x ++ [b] <:+ t ++ [a] ↔ b = a ∧ x <:+ t := by
 constructor
 ·rintro ⟨p, h⟩
  rw [← List.append_assoc] at h
  obtain ⟨h1, h2⟩ := List.append_inj' h rfl
  exact ⟨by simpa using h2, ⟨p, h1⟩⟩
 ·rintro ⟨rfl, p, rfl⟩
  exact ⟨p, by simp⟩
theorem mK {u : List Nat} {l : Nat} (h : l < u.length) : u.take (l + 1) = u.take l ++ [u.getD l 0] := yD (d := 0) h
theorem uH {u t : List Nat} {l a : Nat} (h : l < u.length) : u.take (l + 1) <:+ t ++ [a] ↔ u.getD l 0 = a ∧ u.take l <:+ t := by
 rw [mK h, suffix_snoc]
theorem kmp_snoc (u t : List Nat) (a : Nat) : kmp u (t ++ [a]) = kmp u (u.take (kmp u t) ++ [a]) := by
 refine Nat.le_antisymm ?_ ?_
 ·have hs := uV u (t ++ [a])
  have hl := tM u (t ++ [a])
  generalize kmp u (t ++ [a]) = m at hs hl ⊢
  cases m with
  | zero => exact Nat.zero_le _
  | succ l =>
   obtain ⟨h1, h2⟩ := (uH (by omega)).1 hs
   refine pB hl ((uH (by omega)).2 ⟨h1, ?_⟩)
   have h3 := pB (show l ≤ u.length by omega) h2
   refine List.suffix_of_suffix_length_le h2 (uV u t) ?_
   rw [List.length_take, List.length_take]; omega
 ·refine pB (tM _ _) (List.IsSuffix.trans (uV u _) ?_)
  obtain ⟨p, hp⟩ := uV u t
  refine ⟨p, ?_⟩
  rw [← List.append_assoc, hp]
theorem kmp_go {u : List Nat} {j : Nat} (h : j < u.length) : kmp u (u.take j ++ [u.getD j 0]) = j + 1 := by
 rw [← mK h]
 refine Nat.le_antisymm ?_ (pB h (List.suffix_refl _))
 have h1 := (uV u (u.take (j + 1))).length_le
 have h2 := tM u (u.take (j + 1))
 rw [List.length_take, List.length_take] at h1
 omega
theorem pY {u : List Nat} {j : Nat} (h : j ≤ u.length) : ((u.take j).drop 1).length = j - 1 := by
 rw [List.length_drop, List.length_take]; omega
theorem kmp_back {u : List Nat} {j a : Nat} (h0 : 0 < j) (h : j ≤ u.length) (hn : j = u.length ∨ u.getD j 0 ≠ a) : kmp u (u.take j ++ [a]) = kmp u ((u.take j).drop 1 ++ [a]) := by
 refine Nat.le_antisymm ?_ ?_
 ·have hs := uV u (u.take j ++ [a])
  have hl := tM u (u.take j ++ [a])
  refine pB hl ?_
  have hlen : kmp u (u.take j ++ [a]) ≤ j := by
   apply Classical.byContradiction
   intro hgt
   have h1 := hs.length_le
   rw [List.length_take, List.length_append, List.length_take] at h1
   simp only [List.length_singleton] at h1
   have e : kmp u (u.take j ++ [a]) = j + 1 := by omega
   rw [e] at hs
   have := ((uH (by omega)).1 hs).1
   rcases hn with hn | hn
   ·omega
   ·exact hn this
  refine List.suffix_of_suffix_length_le hs (?_ : (u.take j).drop 1 ++ [a] <:+ u.take j ++ [a]) ?_
  ·refine ⟨(u.take j).take 1, ?_⟩
   rw [← List.append_assoc, List.take_append_drop]
  ·rw [List.length_take, List.length_append, pY h]
   simp only [List.length_singleton]
   omega
 ·refine pB (tM _ _) ((uV u _).trans ?_)
  refine ⟨(u.take j).take 1, ?_⟩
  rw [← List.append_assoc, List.take_append_drop]
def qH (u : List Nat) (j : Nat) : Nat := kmp u ((u.take j).drop 1)
theorem backK_lt {u : List Nat} {j : Nat} (h0 : 0 < j) (h : j ≤ u.length) : qH u j < j := by
 have h1 := (uV u ((u.take j).drop 1)).length_le
 have h2 := tM u ((u.take j).drop 1)
 rw [pY h, List.length_take] at h1
 unfold qH
 omega
theorem backK_one {u : List Nat} (h : 1 ≤ u.length) : qH u 1 = 0 := by have := backK_lt (u := u) (j := 1) (by omega) h; omega
theorem backK_next {u : List Nat} {j : Nat} (h0 : 0 < j) (h : j < u.length) : qH u (j + 1) = kmp u (u.take (qH u j) ++ [u.getD j 0]) := by
 unfold qH
 rw [mK h, ← kmp_snoc]
 congr 1
 rw [List.drop_append_of_le_length (by rw [List.length_take]; omega)]
theorem kmp_fall {u : List Nat} {j a : Nat} (h0 : 0 < j) (h : j ≤ u.length) (hn : j = u.length ∨ u.getD j 0 ≠ a) : kmp u (u.take j ++ [a]) = kmp u (u.take (qH u j) ++ [a]) := by
 rw [kmp_back h0 h hn, kmp_snoc]; rfl
theorem kmp_zero {u : List Nat} {a : Nat} (hn : u = [] ∨ u.getD 0 0 ≠ a) : kmp u (u.take 0 ++ [a]) = 0 := by
 have hs := uV u (u.take 0 ++ [a])
 have hl := tM u (u.take 0 ++ [a])
 have h1 := hs.length_le
 rw [List.length_take] at h1
 simp only [List.take_zero, List.nil_append, List.length_singleton] at h1 hs hl ⊢
 rcases hn with rfl | hn
 ·simpa using hl
 ·apply Classical.byContradiction
  intro h0
  have e : kmp u [a] = 0 + 1 := by omega
  rw [e] at hs
  exact hn ((uH (t := []) (by omega)).1 hs).1
def BRows (d : DfaV) (k c : Nat) (u : List Nat) (m : Nat) : Prop := ∀ j a, j < m → a < k → nx d (c + j) a = c + kmp u (u.take j ++ [a])
theorem run_kmp {d : DfaV} {k c : Nat} {u : List Nat} {m : Nat} (h : BRows d k c u m) (hm : u.length ≤ m) : ∀ (n : Nat) (t : List Nat), t.length = n → yA k t → (∀ t1 a t2, t = t1 ++ a :: t2 → kmp u t1 < m) → run d c t = c + kmp u t
 | 0, t, hl, _, _ => by
  have := List.eq_nil_of_length_eq_zero hl
  subst this
  rw [kmp_nil]; rfl
 | n + 1, t, hl, hw, hn => by
  have hne : t ≠ [] := by intro e; subst e; simp at hl
  have e := (List.dropLast_concat_getLast hne).symm
  have hlt : t.dropLast.length = n := by rw [List.length_dropLast]; omega
  rw [e] at hw hn ⊢
  have h1 := run_kmp h hm n t.dropLast hlt (fun a ha => hw a (List.mem_append_left _ ha)) (fun t1 a t2 e2 => hn t1 a (t2 ++ [t.getLast hne]) (by rw [e2]; simp))
  rw [run_snoc, h1, h _ _ (hn _ _ [] rfl) (hw _ (by simp)), ← kmp_snoc]
def oC (d : DfaV) (k : Nat) : Nat → List (List Nat) → Nat → Prop
 | c, [], F => c = F ∧ ∀ a, a < k → nx d c a = 0
 | c, [v], F => F = c + v.length ∧ BRows d k c v (v.length + 1)
 | c, u :: v :: us, F => u ≠ [] ∧ BRows d k c u u.length ∧ oC d k (c + u.length) (v :: us) F
theorem oC.le {d : DfaV} {k : Nat} : ∀ {us : List (List Nat)} {c F : Nat}, oC d k c us F → c ≤ F
 | [], c, F, h => Nat.le_of_eq h.1
 | [v], c, F, h => by have := h.1; omega
 | u :: v :: us, c, F, h => by have := oC.le h.2.2; omega
theorem first_end (u r : List Nat) : (∀ t, t <+: r → ¬ u <:+ t) ∨ ∃ t r', r = t ++ r' ∧ u <:+ t ∧ ∀ t1 a t2, t = t1 ++ a :: t2 → ¬ u <:+ t1 := by
 by_cases h : ∃ l, u <:+ r.take l
 ·have key : ∀ n l, l ≤ n → u <:+ r.take l → ∃ l, u <:+ r.take l ∧ ∀ m, m < l → ¬ u <:+ r.take m := fun n => by
   induction n with
   | zero => intro l hl hu; exact ⟨l, hu, fun m hm => by omega⟩
   | succ n ih =>
    intro l hl hu
    by_cases h2 : ∃ m, m < l ∧ u <:+ r.take m
    ·obtain ⟨m, hm, hu2⟩ := h2
     exact ih m (by omega) hu2
    ·exact ⟨l, hu, fun m hm hu2 => h2 ⟨m, hm, hu2⟩⟩
  obtain ⟨l0, hl0⟩ := h
  obtain ⟨l, hf, hm⟩ := key l0 l0 (Nat.le_refl _) hl0
  refine .inr ⟨r.take l, r.drop l, (List.take_append_drop l r).symm, hf, fun t1 a t2 e hs => ?_⟩
  have hl : t1.length < l := by
   have := congrArg List.length e
   rw [List.length_take, List.length_append, List.length_cons] at this
   omega
  refine hm _ hl ?_
  have : r.take t1.length = t1 := by
   have e2 : (r.take l).take t1.length = t1 := by rw [e, List.take_left]
   rwa [List.take_take, Nat.min_eq_left (by omega)] at e2
  rwa [this]
 ·refine .inl fun t ht hs => h ⟨t.length, ?_⟩
  rwa [← List.prefix_iff_eq_take.1 ht]
theorem run_sink {d : DfaV} {k : Nat} (h : ∀ a, a < k → nx d 0 a = 0) : ∀ (w : List Nat), yA k w → run d 0 w = 0
 | [], _ => rfl
 | a :: w, hw => by
  show run d (nx d 0 a) w = 0
  rw [h a (hw a (by simp))]
  exact run_sink h w (fun b hb => hw b (List.mem_cons_of_mem _ hb))
theorem tail_acc {d : DfaV} {k : Nat} (h0 : ∀ a, a < k → nx d 0 a = 0) : ∀ {us : List (List Nat)} {c F : Nat}, 0 < F → oC d k c us F → ∀ r, yA k r → (run d c r = F ↔ TlN us r)
 | [], c, F, hF, h, r, hr => by
  obtain ⟨rfl, h⟩ := h
  cases r with
  | nil => exact ⟨fun _ => rfl, fun _ => rfl⟩
  | cons a r =>
   constructor
   ·intro e
    have : run d (nx d c a) r = c := e
    rw [h a (hr a (by simp)), run_sink h0 r (fun b hb => hr b (List.mem_cons_of_mem _ hb))] at this
    omega
   ·intro e; cases e
 | [v], c, F, hF, h, r, hr => by
  obtain ⟨rfl, h⟩ := h
  rw [run_kmp h (by omega) r.length r rfl hr (fun t1 a t2 _ => by have := tM v t1; omega)]
  have e : c + kmp v r = c + v.length ↔ kmp v r = v.length := by omega
  rw [e, nW]
  constructor
  ·rintro ⟨p, rfl⟩; exact ⟨p, [], by simp, rfl⟩
  ·rintro ⟨p, r', rfl, rfl⟩; exact ⟨p, by simp⟩
 | u :: v :: us, c, F, hF, h, r, hr => by
  obtain ⟨hu, hb, ht⟩ := h
  have hle := oC.le ht
  rcases first_end u r with hno | ⟨t, r', rfl, hs, hmin⟩
  ·have hlt : ∀ t, t <+: r → kmp u t < u.length := fun t ht => by
    have := tM u t
    have : kmp u t ≠ u.length := fun e => hno t ht (nW.1 e)
    omega
   rw [run_kmp hb (Nat.le_refl _) r.length r rfl hr (fun t1 a t2 e => hlt t1 ⟨a :: t2, e.symm⟩)]
   have := hlt r (List.prefix_refl r)
   constructor
   ·intro e; omega
   ·rintro ⟨p, q, e, _⟩
    exact absurd ⟨p, rfl⟩ (hno (p ++ u) ⟨q, e.symm⟩)
  ·have hk : ∀ t1 a t2, t = t1 ++ a :: t2 → kmp u t1 < u.length := fun t1 a t2 e => by
    have := tM u t1
    have : kmp u t1 ≠ u.length := fun e2 => hmin t1 a t2 e (nW.1 e2)
    omega
   have hwt : yA k t := fun a ha => hr a (List.mem_append_left _ ha)
   have hwr : yA k r' := fun a ha => hr a (List.mem_append_right _ ha)
   rw [run_append, run_kmp hb (Nat.le_refl _) t.length t rfl hwt hk, nW.2 hs, tail_acc h0 hF ht r' hwr]
   constructor
   ·intro h
    obtain ⟨p, rfl⟩ := hs
    exact ⟨p, r', rfl, h⟩
   ·rintro ⟨p, q, e, h⟩
    -- the first place is not behind this one
    have hlen : t.length ≤ (p ++ u).length := by
     apply Classical.byContradiction
     intro hlt
     have e1 : p ++ u = t.take (p ++ u).length := by
      have := congrArg (List.take (p ++ u).length) e
      rw [List.take_left, List.take_append_of_le_length (by omega)] at this
      exact this.symm
     have e2 : t = (p ++ u) ++ t.drop (p ++ u).length := by
      conv => lhs; rw [← List.take_append_drop (p ++ u).length t]
      rw [← e1]
     cases hd : t.drop (p ++ u).length with
     | nil => have := congrArg List.length hd; rw [List.length_drop] at this; simp at this; simp at hlt; omega
     | cons a t2 =>
      rw [hd] at e2
      exact hmin (p ++ u) a t2 e2 ⟨p, rfl⟩
    have e3 : r' = (p ++ u).drop t.length ++ q := by
     have := congrArg (List.drop t.length) e
     rw [List.drop_left, List.drop_append_of_le_length hlen] at this
     exact this
    rw [e3]
    exact h.more _ (by simp)
def PRows (d : DfaV) (k : Nat) (b : List Nat) : Prop := ∀ j a, j < b.length → a < k → nx d (1 + j) a = if b.getD j 0 = a then 2 + j else 0
theorem kU {d : DfaV} {k : Nat} {b : List Nat} (h0 : ∀ a, a < k → nx d 0 a = 0) (h : PRows d k b) : ∀ (m j : Nat), b.length - j = m → j ≤ b.length → ∀ s, yA k s →
  (∃ r, s = b.drop j ++ r ∧ run d (1 + j) s = run d (1 + b.length) r) ∨ ((¬ ∃ r, s = b.drop j ++ r) ∧ run d (1 + j) s < 1 + b.length)
 | 0, j, hm, hj, s, hs => .inl ⟨s, by rw [show j = b.length by omega]; simp, by rw [show j = b.length by omega]⟩
 | m + 1, j, hm, hj, s, hs => by
  have hd : b.drop j = b.getD j 0 :: b.drop (j + 1) := by
   rw [List.drop_eq_getElem_cons (show j < b.length by omega), zF (show j < b.length by omega)]
  cases s with
  | nil =>
   refine .inr ⟨?_, ?_⟩
   ·rintro ⟨r, e⟩; rw [hd] at e; cases e
   ·show 1 + j < _; omega
  | cons a s =>
   have ha : a < k := hs a (by simp)
   have hs' : yA k s := fun b hb => hs b (List.mem_cons_of_mem _ hb)
   have e1 : run d (1 + j) (a :: s) = run d (nx d (1 + j) a) s := rfl
   rw [e1, h j a (by omega) ha]
   by_cases e : b.getD j 0 = a
   ·rw [if_pos e]
    rcases kU h0 h m (j + 1) (by omega) (by omega) s hs' with ⟨r, e2, e3⟩ | ⟨h1, h2⟩
    ·refine .inl ⟨r, by rw [hd, e, e2]; rfl, ?_⟩
     rw [← e3, show 2 + j = 1 + (j + 1) by omega]
    ·refine .inr ⟨?_, by rw [show 2 + j = 1 + (j + 1) by omega]; exact h2⟩
     rintro ⟨r, e2⟩
     rw [hd] at e2
     simp only [List.cons_append, List.cons.injEq] at e2
     exact h1 ⟨r, e2.2⟩
   ·rw [if_neg e, run_sink h0 s hs']
    refine .inr ⟨?_, by omega⟩
    rintro ⟨r, e2⟩
    rw [hd] at e2
    simp only [List.cons_append, List.cons.injEq] at e2
    exact e e2.1.symm
theorem pat_run {d : DfaV} {k F : Nat} {b : List Nat} {us : List (List Nat)} (h0 : ∀ a, a < k → nx d 0 a = 0) (hp : PRows d k b) (ht : oC d k (1 + b.length) us F) (s : List Nat) (hs : yA k s) : run d 1 s = F ↔ PatN (b :: us) s := by
 have hF := ht.le
 rcases kU h0 hp _ 0 rfl (Nat.zero_le _) s hs with ⟨r, e, e2⟩ | ⟨h1, h2⟩
 ·rw [List.drop_zero] at e
  subst e
  rw [show (1 : Nat) = 1 + 0 by rfl, e2, tail_acc h0 (by omega) ht r (fun a ha => hs a (List.mem_append_right _ ha))]
  exact ⟨fun h => ⟨r, rfl, h⟩, fun ⟨q, e, h⟩ => by rw [List.append_cancel_left e]; exact h⟩
 ·rw [List.drop_zero] at h1
  constructor
  ·intro e; rw [show (1 : Nat) + 0 = 1 by rfl] at h2; omega
  ·rintro ⟨r, e, _⟩; exact absurd ⟨r, e⟩ h1
def jK (k c : Nat) (u : List Nat) (j : Nat) : List Int := (List.range k).map fun a => ((c + kmp u (u.take j ++ [a]) : Nat) : Int)
def yP (k c : Nat) (u : List Nat) (m : Nat) : List (List Int) := (List.range m).map (jK k c u)
def preRow (k : Nat) (b : List Nat) (j : Nat) : List Int := (List.range k).map fun a => ((if b.getD j 0 = a then 2 + j else 0 : Nat) : Int)
def vC (k : Nat) (b : List Nat) (m : Nat) : List (List Int) := (List.range m).map (preRow k b)
def yX (k : Nat) : Nat → List (List Nat) → List (List Int)
 | _, [] => [List.replicate k 0]
 | c, [v] => yP k c v (v.length + 1)
 | c, u :: v :: us => yP k c u u.length ++ yX k (c + u.length) (v :: us)
def vE (k : Nat) (bs : List (List Nat)) : List (List Int) := match bs with
 | [] => []
 | b :: us => List.replicate k 0 :: (vC k b b.length ++ yX k (1 + b.length) us)
def patD (k : Nat) (bs : List (List Nat)) : DfaV := ⟨k, 1, List.replicate ((vE k bs).length - 1) false ++ [true], vE k bs⟩
def yE (us : List (List Nat)) : Nat := (us.map List.length).sum
theorem wW (k : Nat) : ∀ (us : List (List Nat)) (c : Nat), (yX k c us).length = yE us + 1
 | [], c => rfl
 | [v], c => by simp [yX, yP, yE]
 | u :: v :: us, c => by
  have := wW k (v :: us) (c + u.length)
  simp only [yX, List.length_append, this, yP, List.length_map, List.length_range, yE, List.map_cons, List.sum_cons]
  omega
theorem tT (k : Nat) (b : List Nat) (us : List (List Nat)) : (vE k (b :: us)).length = 2 + b.length + yE us := by
 simp only [vE, List.length_cons, List.length_append, wW, vC, List.length_map, List.length_range]; omega
theorem yO {α : Type} (f : Nat → α) {m i : Nat} (h : i < m) (x : α) : ((List.range m).map f).getD i x = f i := by
 rw [zF (by simpa using h)]; simp
theorem xE {α : Type} {l m : List α} {i : Nat} (x : α) : (l ++ m).getD (l.length + i) x = m.getD i x := by
 simp only [List.getD_eq_getElem?_getD]
 rw [List.getElem?_append_right (by omega)]
 congr 2; omega
theorem yC {α : Type} {l m : List α} {i : Nat} (h : i < l.length) (x : α) : (l ++ m).getD i x = l.getD i x := by
 simp only [List.getD_eq_getElem?_getD]
 rw [List.getElem?_append_left h]
def From (d : DfaV) (c : Nat) (l : List (List Int)) : Prop := ∀ i, i < l.length → d.next.getD (c + i) [] = l.getD i []
theorem From.nx {d : DfaV} {c : Nat} {l : List (List Int)} (h : From d c l) {i : Nat} (hi : i < l.length) (a : Nat) : nx d (c + i) a = ((l.getD i []).getD a 0).toNat := by
 unfold Go.Proofs.Ytjfdomfendbhfaa.nx entN
 show (ent d.next (c + i) a).toNat = _
 unfold ent
 rw [h i hi]
theorem From.left {d : DfaV} {c : Nat} {l m : List (List Int)} (h : From d c (l ++ m)) : From d c l := fun i hi => by
 rw [h i (by rw [List.length_append]; omega), yC hi]
theorem From.right {d : DfaV} {c : Nat} {l m : List (List Int)} (h : From d c (l ++ m)) : From d (c + l.length) m := fun i hi => by
 have := h (l.length + i) (by rw [List.length_append]; omega)
 rw [xE] at this
 rw [← this]; congr 1; omega
theorem oK {k c j a : Nat} {u : List Nat} (h : a < k) : (jK k c u j).getD a 0 = ((c + kmp u (u.take j ++ [a]) : Nat) : Int) := yO _ h _
theorem From.block {d : DfaV} {k c : Nat} {u : List Nat} {m : Nat} (h : From d c (yP k c u m)) : BRows d k c u m := fun j a hj ha => by
 rw [h.nx (by simpa [yP] using hj), yP, yO _ hj, oK ha]; omega
theorem From.tail {d : DfaV} {k : Nat} : ∀ {us : List (List Nat)} {c : Nat}, From d c (yX k c us) → (∀ u ∈ us.dropLast, u ≠ []) → oC d k c us (c + yE us)
 | [], c, h, _ => ⟨rfl, fun a ha => by
  have := h.nx (i := 0) (by simp [yX]) a
  simpa [yX, List.getD, List.getElem?_replicate, ha] using this⟩
 | [v], c, h, _ => ⟨by simp [yE], From.block h⟩
 | u :: v :: us, c, h, hne => by
  refine ⟨hne u (by simp), From.block (From.left h), ?_⟩
  have h2 := From.right h
  rw [show (yP k c u u.length).length = u.length by simp [yP]] at h2
  have := From.tail h2 (fun w hw => hne w (by rw [List.dropLast_cons_of_ne_nil (by simp)]; exact List.mem_cons_of_mem _ hw))
  rwa [show c + yE (u :: v :: us) = c + u.length + yE (v :: us) by simp [yE]; omega]
theorem pat_from (k : Nat) (b : List Nat) (us : List (List Nat)) : From (patD k (b :: us)) 1 (vC k b b.length ++ yX k (1 + b.length) us) := fun i hi => by
 show (vE k (b :: us)).getD (1 + i) [] = _
 unfold vE
 rw [Nat.add_comm]
 rfl
theorem pat_pre (k : Nat) (b : List Nat) (us : List (List Nat)) : PRows (patD k (b :: us)) k b := fun j a hj ha => by
 rw [(pat_from k b us).left.nx (by simpa [vC] using hj), vC, yO _ hj, preRow, yO _ ha]; omega
theorem pat_sink (k : Nat) (b : List Nat) (us : List (List Nat)) : ∀ a, a < k → nx (patD k (b :: us)) 0 a = 0 := fun a ha => by
 show (((List.replicate k (0 : Int)).getD a 0)).toNat = 0
 simp [List.getD, List.getElem?_replicate, ha]
theorem pat_tail (k : Nat) (b : List Nat) (us : List (List Nat)) (h : ∀ u ∈ us.dropLast, u ≠ []) : oC (patD k (b :: us)) k (1 + b.length) us (1 + b.length + yE us) := by
 have := (pat_from k b us).right
 rw [show (vC k b b.length).length = b.length by simp [vC]] at this
 exact From.tail this h
theorem pat_final {k : Nat} {b : List Nat} {us : List (List Nat)} {q : Nat} : (patD k (b :: us)).final.getD q false = decide (q = 1 + b.length + yE us) := by
 show (List.replicate ((vE k (b :: us)).length - 1) false ++ [true]).getD q false = _
 rw [tT, show 2 + b.length + yE us - 1 = 1 + b.length + yE us by omega]
 generalize 1 + b.length + yE us = m
 simp only [List.getD_eq_getElem?_getD]
 rcases Nat.lt_trichotomy q m with h | rfl | h
 ·rw [List.getElem?_append_left (by simpa using h), List.getElem?_replicate, if_pos h, decide_eq_false (by omega)]; rfl
 ·rw [List.getElem?_append_right (by simp)]; simp
 ·rw [List.getElem?_append_right (by simp; omega), decide_eq_false (by omega)]
  rw [List.length_replicate, List.getElem?_eq_none (by simp; omega)]; rfl
theorem mL (k : Nat) : ∀ (us : List (List Nat)) (c i : Nat), i < (yX k c us).length → ((yX k c us).getD i []).length = k ∧ ∀ a, a < k → 0 ≤ ((yX k c us).getD i []).getD a 0 ∧ ((yX k c us).getD i []).getD a 0 ≤ ((c + yE us : Nat) : Int)
 | [], c, i, h => by
  have : i = 0 := by simpa [yX] using h
  subst this
  refine ⟨by simp [yX], fun a ha => ?_⟩
  simp [yX, List.getD, List.getElem?_replicate, ha]
  omega
 | [v], c, i, h => by
  simp only [yX, yP, List.length_map, List.length_range] at h ⊢
  rw [yO _ h]
  refine ⟨by simp [jK], fun a ha => ?_⟩
  rw [oK ha]
  have := tM v (v.take i ++ [a])
  simp only [yE, List.map_cons, List.map_nil, List.sum_cons, List.sum_nil]
  omega
 | u :: v :: us, c, i, h => by
  simp only [yX] at h ⊢
  have hl : (yP k c u u.length).length = u.length := by simp [yP]
  by_cases hi : i < u.length
  ·rw [yC (by omega), yP, yO _ hi]
   refine ⟨by simp [jK], fun a ha => ?_⟩
   rw [oK ha]
   have := tM u (u.take i ++ [a])
   simp only [yE, List.map_cons, List.sum_cons]
   omega
  ·have e : i = (yP k c u u.length).length + (i - u.length) := by omega
   rw [e, xE]
   have := mL k (v :: us) (c + u.length) (i - u.length) (by rw [List.length_append] at h; omega)
   rwa [show c + yE (u :: v :: us) = c + u.length + yE (v :: us) by simp [yE]; omega]
theorem pat_vd {k : Nat} {b : List Nat} {us : List (List Nat)} (h1 : 1 ≤ k) (h6 : k ≤ 6) (hl : b.length + yE us ≤ 64) : VD (patD k (b :: us)) (2 + b.length + yE us) k := by
 have hn := tT k b us
 have key : ∀ q, q < 2 + b.length + yE us → ((patD k (b :: us)).next.getD q []).length = k ∧ ∀ a, a < k → 0 ≤ ((patD k (b :: us)).next.getD q []).getD a 0 ∧ ((patD k (b :: us)).next.getD q []).getD a 0 < ((2 + b.length + yE us : Nat) : Int) := by
  intro q hq
  cases q with
  | zero =>
   refine ⟨by simp [patD, vE], fun a ha => ?_⟩
   simp [patD, vE, List.getD, List.getElem?_replicate, ha]
   omega
  | succ q =>
   have e := pat_from k b us q (by rw [List.length_append, wW]; simp [vC]; omega)
   rw [Nat.add_comm] at e
   rw [e]
   have hpl : (vC k b b.length).length = b.length := by simp [vC]
   by_cases hi : q < b.length
   ·rw [yC (by omega), vC, yO _ hi]
    refine ⟨by simp [preRow], fun a ha => ?_⟩
    rw [preRow, yO _ ha]
    split <;> omega
   ·rw [show q = (vC k b b.length).length + (q - b.length) by omega, xE]
    have := mL k us (1 + b.length) (q - b.length) (by rw [wW]; omega)
    refine ⟨this.1, fun a ha => ?_⟩
    have := this.2 a ha
    omega
 exact ⟨rfl, h1, h6, by show (List.replicate _ false ++ [true]).length = _; rw [List.length_append, List.length_replicate, hn]; simp; omega, by omega, by omega, hn, by show (0 : Int) ≤ 1; omega, by show (1 : Int) < _; omega, fun q hq => (key q hq).1, fun q a hq ha => ((key q hq).2 a ha).1, fun q a hq ha => ((key q hq).2 a ha).2⟩
theorem pat_acc {k : Nat} {b : List Nat} {us : List (List Nat)} (hne : ∀ u ∈ us.dropLast, u ≠ []) {s : List Nat} (hs : yA k s) : acc (patD k (b :: us)) (st0 (patD k (b :: us))) s = true ↔ PatN (b :: us) s := by
 unfold acc
 rw [pat_final, decide_eq_true_eq]
 exact pat_run (pat_sink k b us) (pat_pre k b us) (pat_tail k b us hne) s hs
end Go.Proofs.Ytjfdomfendbhfaa
