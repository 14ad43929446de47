/- Part 6 of the proof: Numb, DfaPlain. -/
import Derived.Test.YtgbfaggnnfoamaaZi5
set_option linter.unusedVariables false
set_option linter.unusedSimpArgs false
namespace Go.Proofs.Ytgbfaggnnfoamaa
def yS {α : Type} [DecidableEq α] (acc : List α) (x : α) : List α := if x ∈ acc then acc else acc ++ [x]
def zV {α : Type} [DecidableEq α] (l : List α) : List α := l.foldl yS []
section
variable {α : Type} [DecidableEq α]
theorem wU {acc : List α} {x : α} (h : x ∈ acc) : yS acc x = acc := if_pos h
theorem xR {acc : List α} {x : α} (h : x ∉ acc) : yS acc x = acc ++ [x] := if_neg h
theorem rY {acc : List α} {x y : α} : y ∈ yS acc x ↔ y ∈ acc ∨ y = x := by
 unfold yS
 split
 ·rename_i h
  exact ⟨.inl, fun h' => by rcases h' with h' | rfl <;> assumption⟩
 ·simp
theorem vH (l : List α) (x : α) : zV (l ++ [x]) = yS (zV l) x := by simp [zV, List.foldl_append]
theorem mem_foldl_addNew (l : List α) : ∀ (acc : List α) (y : α), y ∈ l.foldl yS acc ↔ y ∈ acc ∨ y ∈ l := by
 induction l with
 | nil => intro acc y; simp
 | cons a l ih => intro acc y; rw [List.foldl_cons, ih, rY, List.mem_cons]; exact or_assoc
theorem xK {l : List α} {y : α} : y ∈ zV l ↔ y ∈ l := by rw [zV, mem_foldl_addNew]; simp
theorem nJ {acc : List α} {x : α} (h : acc.Nodup) : (yS acc x).Nodup := by
 unfold yS
 split
 ·exact h
 ·rename_i hx
  rw [List.nodup_append]
  exact ⟨h, by simp, fun a ha b hb => by rw [List.mem_singleton] at hb; subst hb; rintro rfl; exact hx ha⟩
theorem foldl_addNew_nodup (l : List α) : ∀ {acc : List α}, acc.Nodup → (l.foldl yS acc).Nodup := by
 induction l with
 | nil => intro acc h; exact h
 | cons a l ih => intro acc h; exact ih (nJ h)
theorem uD (l : List α) : (zV l).Nodup := foldl_addNew_nodup l (by simp)
theorem sK (acc : List α) (x : α) : acc <+: yS acc x := by
 unfold yS; split
 ·exact List.prefix_refl _
 ·exact List.prefix_append _ _
theorem foldl_addNew_prefix (l : List α) : ∀ (acc : List α), acc <+: l.foldl yS acc := by
 induction l with
 | nil => intro acc; exact List.prefix_refl _
 | cons a l ih => intro acc; exact (sK acc a).trans (ih _)
theorem tH (l : List α) (k : Nat) : zV (l.take k) <+: zV l := by
 conv => rhs; rw [← List.take_append_drop k l]
 rw [zV, zV, List.foldl_append]
 exact foldl_addNew_prefix _ _
theorem vE (l : List α) : (zV l).length ≤ l.length := by
 have key : ∀ (l acc : List α), (l.foldl yS acc).length ≤ acc.length + l.length := by
  intro l
  induction l with
  | nil => intro acc; simp
  | cons a l ih =>
   intro acc
   rw [List.foldl_cons]
   have h1 := ih (yS acc a)
   have h2 : (yS acc a).length ≤ acc.length + 1 := by unfold yS; split <;> simp
   rw [List.length_cons]; omega
 simpa [zV] using key l []
theorem nF {l m : List α} {x : α} (h : l <+: m) (hx : x ∈ l) : m.idxOf x = l.idxOf x := by
 obtain ⟨r, rfl⟩ := h
 rw [List.idxOf_append, if_pos hx]
theorem idxOf_inj {l : List α} {x y : α} (hx : x ∈ l) (h : l.idxOf x = l.idxOf y) : x = y := by
 have h1 := List.idxOf_lt_length_of_mem hx
 have e1 := List.getElem_idxOf h1
 have e2 := List.getElem_idxOf (show l.idxOf y < l.length by omega)
 rw [← e1, ← e2]; simp only [h]
def numb (l : List α) : List Nat := l.map fun x => (zV l).idxOf x
theorem yF (l : List α) : (numb l).length = l.length := by simp [numb]
theorem tE {l : List α} {i : Nat} (h : i < l.length) : (numb l)[i]'(by rw [yF]; exact h) = (zV l).idxOf l[i] := by simp [numb]
theorem numb_lt {l : List α} : ∀ c ∈ numb l, c < (zV l).length := by
 intro c hc
 obtain ⟨x, hx, rfl⟩ := List.mem_map.1 hc
 exact List.idxOf_lt_length_of_mem (xK.2 hx)
theorem sD {l : List α} {i j : Nat} (hi : i < l.length) (hj : j < l.length) : (numb l).getD i 0 = (numb l).getD j 0 ↔ l[i] = l[j] := by
 simp only [List.getD, List.getElem?_eq_getElem (show i < (numb l).length by rw [yF]; exact hi), List.getElem?_eq_getElem (show j < (numb l).length by rw [yF]; exact hj), Option.getD_some, tE hi, tE hj]
 exact ⟨fun h => idxOf_inj (xK.2 (List.getElem_mem hi)) h, fun h => by rw [h]⟩
theorem jQ {l : List α} {k : Nat} (hk : k < l.length) : (zV (l.take (k + 1))).idxOf l[k] = (zV l).idxOf l[k] := by
 refine (nF (tH l (k + 1)) (xK.2 ?_)).symm
 rw [List.take_succ_eq_append_getElem hk]; exact List.mem_append_right _ (List.mem_singleton_self _)
end
def SameKer (p q : List Nat) : Prop := p.length = q.length ∧ ∀ i j, i < p.length → j < p.length → (p.getD i 0 = p.getD j 0 ↔ q.getD i 0 = q.getD j 0)
def Norm (p : List Nat) : Prop := numb p = p
theorem zI {α : Type} {l : List α} {i : Nat} {d : α} (h : i < l.length) : l.getD i d = l[i] := by simp [List.getD, List.getElem?_eq_getElem h]
theorem firsts_map_inj {α β : Type} [DecidableEq α] [DecidableEq β] (f : α → β) (l : List α) (h : ∀ x ∈ l, ∀ y ∈ l, f x = f y → x = y) : zV (l.map f) = (zV l).map f := by
 have key : ∀ (m acc : List α), (∀ x ∈ acc ++ m, ∀ y ∈ acc ++ m, f x = f y → x = y) → (m.map f).foldl yS (acc.map f) = (m.foldl yS acc).map f := by
  intro m
  induction m with
  | nil => intro acc _; rfl
  | cons a m ih =>
   intro acc hh
   rw [List.map_cons, List.foldl_cons, List.foldl_cons]
   have e : yS (acc.map f) (f a) = (yS acc a).map f := by
    unfold yS
    by_cases ha : a ∈ acc
    ·rw [if_pos ha, if_pos (List.mem_map_of_mem ha)]
    ·rw [if_neg ha, if_neg]
     ·simp
     ·intro hm
      obtain ⟨b, hb, e⟩ := List.mem_map.1 hm
      have := hh b (by simp [hb]) a (by simp) e
      subst this
      exact ha hb
   rw [e]
   refine ih _ fun x hx y hy => hh x ?_ y ?_
   ·rw [List.mem_append, rY] at hx; simp; rcases hx with (h | h) | h <;> simp [h]
   ·rw [List.mem_append, rY] at hy; simp; rcases hy with (h | h) | h <;> simp [h]
 have := key l [] (by simpa using h)
 simpa [zV] using this
theorem idxOf_map_inj {α β : Type} [DecidableEq α] [DecidableEq β] (f : α → β) (l : List α) (x : α) (hx : x ∈ l) (h : ∀ y ∈ l, f y = f x → y = x) : (l.map f).idxOf (f x) = l.idxOf x := by
 induction l with
 | nil => simp at hx
 | cons a l ih =>
  rw [List.map_cons, List.idxOf_cons, List.idxOf_cons]
  by_cases e : a = x
  ·subst e; simp
  ·have : f a ≠ f x := fun h' => e (h a (by simp) h')
   simp only [beq_eq_false_iff_ne.2 this, beq_eq_false_iff_ne.2 e, cond_false]
   rw [ih (by simpa [Ne.symm e] using hx) (fun y hy => h y (by simp [hy]))]
theorem lY {α β : Type} [DecidableEq α] [DecidableEq β] : ∀ (l : List α) (m : List β) (he : l.length = m.length), (∀ i j (hi : i < l.length) (hj : j < l.length), (l[i] = l[j] ↔ m[i]'(by omega) = m[j]'(by omega))) → numb l = numb m := by
 intro l m he h
 -- positions of first occurrences
 have key : ∀ (k : Nat) (hk : k ≤ l.length), ∃ ps : List (Fin l.length), zV (l.take k) = ps.map (fun i => l[i]) ∧ zV (m.take k) = ps.map (fun i => m[i.1]'(by omega)) := by
  intro k
  induction k with
  | zero => intro _; exact ⟨[], by simp [zV], by simp [zV]⟩
  | succ k ih =>
   intro hk
   obtain ⟨ps, h1, h2⟩ := ih (by omega)
   have hkl : k < l.length := by omega
   rw [List.take_succ_eq_append_getElem hkl, List.take_succ_eq_append_getElem (show k < m.length by omega), vH, vH, h1, h2]
   have hmem : (l[k] ∈ ps.map (fun i => l[i])) ↔ (m[k]'(by omega) ∈ ps.map (fun i => m[i.1]'(by omega))) := by
    simp only [List.mem_map]
    constructor
    ·rintro ⟨i, hi, e⟩; exact ⟨i, hi, (h i.1 k i.2 hkl).1 e⟩
    ·rintro ⟨i, hi, e⟩; exact ⟨i, hi, (h i.1 k i.2 hkl).2 e⟩
   by_cases hm : l[k] ∈ ps.map (fun i => l[i])
   ·exact ⟨ps, wU hm, wU (hmem.1 hm)⟩
   ·refine ⟨ps ++ [⟨k, hkl⟩], ?_, ?_⟩
    ·rw [xR hm]; simp
    ·rw [xR (fun h' => hm (hmem.2 h'))]; simp
 obtain ⟨ps, h1, h2⟩ := key l.length (Nat.le_refl _)
 rw [List.take_length] at h1
 rw [show m.take l.length = m from List.take_of_length_le (by omega)] at h2
 refine List.ext_getElem (by simp [numb, he]) fun i hi _ => ?_
 rw [yF] at hi
 rw [tE hi, tE (by omega), h1, h2]
 have aux : ∀ (qs : List (Fin l.length)), (qs.map (fun i => l[i])).idxOf l[i] = (qs.map (fun i => m[i.1]'(by omega))).idxOf (m[i]'(by omega)) := by
  intro qs
  induction qs with
  | nil => simp
  | cons a qs ih =>
   rw [List.map_cons, List.map_cons, List.idxOf_cons, List.idxOf_cons, ih]
   have := h a.1 i a.2 hi
   by_cases e : l[a] = l[i]
   ·have e' := this.1 e
    simp only [beq_iff_eq.2 e, beq_iff_eq.2 e']
   ·have e' : ¬ (m[a.1]'(by omega) = m[i]'(by omega)) := fun h' => e (this.2 h')
    simp only [beq_eq_false_iff_ne.2 e, beq_eq_false_iff_ne.2 e']
 exact aux ps
theorem mP {α : Type} [DecidableEq α] (l : List α) : Norm (numb l) := by
 refine lY _ _ (yF l) fun i j hi hj => ?_
 rw [yF] at hi hj
 have := sD (l := l) hi hj
 rw [zI (by rw [yF]; exact hi), zI (by rw [yF]; exact hj)] at this
 exact this
theorem kR {p q : List Nat} (hp : Norm p) (hq : Norm q) (h : SameKer p q) : p = q := by
 rw [← hp, ← hq]
 refine lY _ _ h.1 fun i j hi hj => ?_
 have := h.2 i j hi hj
 rw [zI hi, zI hj, zI (by rw [← h.1]; exact hi), zI (by rw [← h.1]; exact hj)] at this
 exact this
end Go.Proofs.Ytgbfaggnnfoamaa
namespace Go.Proofs.Ytgbfaggnnfoamaa
structure DfaV where
 letters : Int
 start : Int
 final : List Bool
 next : List (List Int)
def rowD (letters : Int) (n : Nat) (r : List Int) : Bool := decide ((r.length : Int) = letters) && r.all fun x => decide (0 ≤ x ∧ x < n)
def tT (d : DfaV) : Int :=
 if d.letters < 1 ∨ 6 < d.letters then 1 else if 512 < d.final.length then 3
 else if d.final.length = 0 ∨ d.next.length ≠ d.final.length ∨ d.start < 0 ∨ d.final.length ≤ d.start then 4
 else if d.next.all (rowD d.letters d.final.length) then 0 else 4
structure VD (d : DfaV) (n k : Nat) : Prop where
 hk : d.letters = k
 k1 : 1 ≤ k
 k6 : k ≤ 6
 hn : d.final.length = n
 n1 : 1 ≤ n
 nbig : n ≤ 4194304
 nl : d.next.length = n
 s0 : 0 ≤ d.start
 sn : d.start < n
 row : ∀ q, q < n → (d.next.getD q []).length = k
 lo : ∀ q a, q < n → a < k → 0 ≤ ent d.next q a
 hi : ∀ q a, q < n → a < k → ent d.next q a < n
theorem kO {k : Int} {n : Nat} {r : List Int} : rowD k n r = true ↔ (r.length : Int) = k ∧ ∀ y, y < r.length → 0 ≤ r.getD y 0 ∧ r.getD y 0 < n := by
 simp only [rowD, Bool.and_eq_true, decide_eq_true_eq, List.all_eq_true]
 refine and_congr_right fun _ => ⟨fun h y hy => ?_, fun h x hx => ?_⟩
 ·have := h (r[y]) (List.getElem_mem hy)
  rwa [← zI (d := 0) hy] at this
 ·obtain ⟨y, hy, rfl⟩ := List.getElem_of_mem hx
  have := h y hy
  rwa [zI hy] at this
theorem nW {d : DfaV} {n k : Nat} (h : VD d n k) (h5 : n ≤ 512) : tT d = 0 := by
 unfold tT
 rw [if_neg (by have := h.hk; have := h.k1; have := h.k6; omega), if_neg (by have := h.hn; omega),
  if_neg (by have := h.hn; have := h.n1; have := h.nl; have := h.s0; have := h.sn; omega), if_pos]
 rw [List.all_eq_true]
 intro r hr
 obtain ⟨q, hq, rfl⟩ := List.getElem_of_mem hr
 have hq' : q < n := by have := h.nl; omega
 rw [kO]
 have hl := h.row q hq'
 rw [zI hq] at hl
 refine ⟨by rw [hl, h.hk], fun y hy => ?_⟩
 have h1 := h.lo q y hq' (by omega)
 have h2 := h.hi q y hq' (by omega)
 unfold ent at h1 h2
 rw [zI hq] at h1 h2
 rw [h.hn]
 exact ⟨h1, h2⟩
def nx (d : DfaV) (q a : Nat) : Nat := entN d.next q a
theorem nx_cast {d : DfaV} {n k : Nat} (h : VD d n k) {q a : Nat} (hq : q < n) (ha : a < k) : (nx d q a : Int) = ent d.next q a := Int.toNat_of_nonneg (h.lo q a hq ha)
theorem qI {d : DfaV} {n k : Nat} (h : VD d n k) {q a : Nat} (hq : q < n) (ha : a < k) : nx d q a < n := by
 have h1 := nx_cast h hq ha
 have h2 := h.hi q a hq ha
 omega
def st0 (d : DfaV) : Nat := d.start.toNat
theorem kI {d : DfaV} {n k : Nat} (h : VD d n k) : (st0 d : Int) = d.start := Int.toNat_of_nonneg h.s0
theorem pI {d : DfaV} {n k : Nat} (h : VD d n k) : st0 d < n := by have := kI h; have := h.sn; omega
def finB (b : Bool) : Int := if b then 1 else 0
def pQ (d : DfaV) : List Nat := numb (d.final.map finB)
def rL (d : DfaV) (p : List Nat) (a : Nat) : List Nat := (List.range p.length).map fun q => p.getD (nx d q a) 0
def jN (m : Nat) (a b : Nat) : Int := (a : Int) * (m + 1) + b
def qJ (p q : List Nat) : List Int := List.zipWith (jN p.length) p q
def kY (p q : List Nat) : List Nat := numb (qJ p q)
def wO (d : DfaV) (p : List Nat) : Nat → List Nat
 | 0 => p
 | k + 1 => kY (wO d p k) (rL d p k)
theorem rC (d : DfaV) : (pQ d).length = d.final.length := by simp [pQ, yF]
theorem uE (d : DfaV) (p : List Nat) (a : Nat) : (rL d p a).length = p.length := by simp [rL]
theorem tJ {p q : List Nat} (h : q.length = p.length) : (qJ p q).length = p.length := by simp [qJ, h]
theorem both8_length {p q : List Nat} (h : q.length = p.length) : (kY p q).length = p.length := by rw [kY, yF, tJ h]
theorem yN (d : DfaV) (p : List Nat) : ∀ k, (wO d p k).length = p.length
 | 0 => rfl
 | k + 1 => by rw [wO, both8_length (by rw [uE, yN d p k]), yN d p k]
theorem rD {p : List Nat} (h : Norm p) : ∀ c ∈ p, c < p.length := by
 intro c hc
 have h1 := numb_lt (l := p)
 rw [h] at h1
 have := h1 c hc
 have := vE p
 omega
theorem pairNo_inj {m a b a' b' : Nat} (hb : b ≤ m) (hb' : b' ≤ m) : jN m a b = jN m a' b' ↔ a = a' ∧ b = b' := by
 unfold jN
 constructor
 ·intro h
  have h' : a * (m + 1) + b = a' * (m + 1) + b' := by exact_mod_cast h
  have e1 : (a * (m + 1) + b) / (m + 1) = a := by rw [Nat.mul_comm, Nat.mul_add_div (by omega), Nat.div_eq_of_lt (by omega)]; omega
  have e2 : (a' * (m + 1) + b') / (m + 1) = a' := by rw [Nat.mul_comm, Nat.mul_add_div (by omega), Nat.div_eq_of_lt (by omega)]; omega
  have ha : a = a' := by rw [← e1, ← e2, h']
  subst ha
  exact ⟨rfl, by omega⟩
 ·rintro ⟨rfl, rfl⟩; rfl
theorem both8_iff {p q : List Nat} (h : q.length = p.length) (hq : ∀ c ∈ q, c < p.length) {i j : Nat} (hi : i < p.length) (hj : j < p.length) :
  (kY p q).getD i 0 = (kY p q).getD j 0 ↔ p.getD i 0 = p.getD j 0 ∧ q.getD i 0 = q.getD j 0 := by
 have hi' : i < (qJ p q).length := by rw [tJ h]; exact hi
 have hj' : j < (qJ p q).length := by rw [tJ h]; exact hj
 rw [kY, sD hi' hj']
 simp only [qJ, List.getElem_zipWith]
 rw [pairNo_inj (Nat.le_of_lt (hq _ (List.getElem_mem _))) (Nat.le_of_lt (hq _ (List.getElem_mem _))), zI hi, zI hj, zI (show i < q.length by omega), zI (show j < q.length by omega)]
theorem mT {d : DfaV} {p : List Nat} {a i : Nat} (hi : i < p.length) : (rL d p a).getD i 0 = p.getD (nx d i a) 0 := by
 rw [zI (by rw [uE]; exact hi)]; simp [rL]
theorem uQ {p : List Nat} {n i : Nat} (h : ∀ c ∈ p, c < n) (hn : 0 < n) : p.getD i 0 < n := by
 by_cases hi : i < p.length
 ·rw [zI hi]; exact h _ (List.getElem_mem hi)
 ·rw [List.getD, List.getElem?_eq_none (by omega)]; exact hn
theorem uT {d : DfaV} {n k : Nat} (hd : VD d n k) {p : List Nat} (hp : p.length = n) (hlt : ∀ c ∈ p, c < n) {i j : Nat} (hi : i < n) (hj : j < n) :
  ∀ m, m ≤ k → ((wO d p m).getD i 0 = (wO d p m).getD j 0 ↔ p.getD i 0 = p.getD j 0 ∧ ∀ a, a < m → p.getD (nx d i a) 0 = p.getD (nx d j a) 0)
 | 0, _ => by simp [wO]
 | m + 1, hm => by
  rw [wO, both8_iff (by rw [uE, yN]) (fun c hc => ?_) (by rw [yN]; omega) (by rw [yN]; omega), uT hd hp hlt hi hj m (by omega), mT (by omega), mT (by omega)]
  ·constructor
   ·rintro ⟨⟨h1, h2⟩, h3⟩
    refine ⟨h1, fun a ha => ?_⟩
    rcases Nat.lt_succ_iff_lt_or_eq.1 ha with ha | rfl
    ·exact h2 a ha
    ·exact h3
   ·rintro ⟨h1, h2⟩
    exact ⟨⟨h1, fun a ha => h2 a (by omega)⟩, h2 m (by omega)⟩
  ·rw [yN, hp]
   obtain ⟨q, hq, rfl⟩ := List.mem_map.1 hc
   exact uQ hlt hd.n1
theorem rT {d : DfaV} {p : List Nat} (hp : Norm p) : ∀ m, Norm (wO d p m)
 | 0 => hp
 | m + 1 => mP _
def cls (p : List Nat) : Nat := (zV p).length
theorem cls_mono {p q : List Nat} (hl : q.length = p.length) (h : ∀ i j, i < p.length → j < p.length → q.getD i 0 = q.getD j 0 → p.getD i 0 = p.getD j 0) :
  cls p ≤ cls q ∧ (cls p = cls q → ∀ i j, i < p.length → j < p.length → p.getD i 0 = p.getD j 0 → q.getD i 0 = q.getD j 0) := by
 -- the classes of q are mapped onto those of p
 let f : Nat → Nat := fun c => p.getD (q.idxOf c) 0
 have hf : ∀ i, i < p.length → f (q.getD i 0) = p.getD i 0 := by
  intro i hi
  have hi' : i < q.length := by omega
  have hm : q.getD i 0 ∈ q := by rw [zI hi']; exact List.getElem_mem _
  have hlt := List.idxOf_lt_length_of_mem hm
  refine h _ i (by omega) hi ?_
  rw [zI hlt, List.getElem_idxOf]
 have hsub : ∀ c ∈ zV p, c ∈ (zV q).map f := by
  intro c hc
  obtain ⟨i, hi, rfl⟩ := List.getElem_of_mem (xK.1 hc)
  rw [List.mem_map]
  refine ⟨q.getD i 0, xK.2 (by rw [zI (by omega)]; exact List.getElem_mem _), ?_⟩
  rw [hf i hi, zI hi]
 have hle : (zV p).length ≤ ((zV q).map f).length := (uD p).length_le_of_subset hsub
 rw [List.length_map] at hle
 refine ⟨hle, fun e i j hi hj hp => ?_⟩
 have hinj : ∀ x ∈ zV q, ∀ y ∈ zV q, f x = f y → x = y := by
  intro x hx y hy hxy
  apply Classical.byContradiction
  intro hne
  have hsub2 : ∀ c ∈ zV p, c ∈ ((zV q).erase x).map f := by
   intro c hc
   obtain ⟨z, hz, rfl⟩ := List.mem_map.1 (hsub c hc)
   by_cases e : z = x
   ·subst e
    exact List.mem_map.2 ⟨y, (List.mem_erase_of_ne (Ne.symm hne)).2 hy, hxy.symm⟩
   ·exact List.mem_map.2 ⟨z, (List.mem_erase_of_ne e).2 hz, rfl⟩
  have h1 := (uD p).length_le_of_subset hsub2
  rw [List.length_map, List.length_erase_of_mem hx] at h1
  have h2 := List.length_pos_of_mem hx
  unfold cls at e
  omega
 have mem : ∀ i, i < p.length → q.getD i 0 ∈ zV q := fun i hi => xK.2 (by rw [zI (by omega)]; exact List.getElem_mem _)
 exact hinj _ (mem i hi) _ (mem j hj) (by rw [hf i hi, hf j hj, hp])
end Go.Proofs.Ytgbfaggnnfoamaa
