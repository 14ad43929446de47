/- Part 6 of the proof: Numb, DfaPlain. -/
import Derived.Test.YtgbfaggnnfoamaaZh5
set_option linter.unusedVariables false
set_option linter.unusedSimpArgs false
namespace Go.Proofs.Ytgbfaggnnfoamaa
def yR {α : Type} [DecidableEq α] (acc : List α) (x : α) : List α := if x ∈ acc then acc else acc ++ [x]
def zT {α : Type} [DecidableEq α] (l : List α) : List α := l.foldl yR []
section
variable {α : Type} [DecidableEq α]
theorem wS {acc : List α} {x : α} (h : x ∈ acc) : yR acc x = acc := if_pos h
theorem xP {acc : List α} {x : α} (h : x ∉ acc) : yR acc x = acc ++ [x] := if_neg h
theorem rT {acc : List α} {x y : α} : y ∈ yR acc x ↔ y ∈ acc ∨ y = x := by
 unfold yR
 split
 ·rename_i h
  exact ⟨.inl, fun h' => by rcases h' with h' | rfl <;> assumption⟩
 ·simp
theorem vE (l : List α) (x : α) : zT (l ++ [x]) = yR (zT l) x := by simp [zT, List.foldl_append]
theorem mem_foldl_addNew (l : List α) : ∀ (acc : List α) (y : α), y ∈ l.foldl yR acc ↔ y ∈ acc ∨ y ∈ l := by
 induction l with
 | nil => intro acc y; simp
 | cons a l ih => intro acc y; rw [List.foldl_cons, ih, rT, List.mem_cons]; exact or_assoc
theorem xG {l : List α} {y : α} : y ∈ zT l ↔ y ∈ l := by rw [zT, mem_foldl_addNew]; simp
theorem nE {acc : List α} {x : α} (h : acc.Nodup) : (yR acc x).Nodup := by
 unfold yR
 split
 ·exact h
 ·rename_i hx
  rw [List.nodup_append]
  exact ⟨h, by simp, fun a ha b hb => by rw [List.mem_singleton] at hb; subst hb; rintro rfl; exact hx ha⟩
theorem foldl_addNew_nodup (l : List α) : ∀ {acc : List α}, acc.Nodup → (l.foldl yR acc).Nodup := by
 induction l with
 | nil => intro acc h; exact h
 | cons a l ih => intro acc h; exact ih (nE h)
theorem uC (l : List α) : (zT l).Nodup := foldl_addNew_nodup l (by simp)
theorem sG (acc : List α) (x : α) : acc <+: yR acc x := by
 unfold yR; split
 ·exact List.prefix_refl _
 ·exact List.prefix_append _ _
theorem foldl_addNew_prefix (l : List α) : ∀ (acc : List α), acc <+: l.foldl yR acc := by
 induction l with
 | nil => intro acc; exact List.prefix_refl _
 | cons a l ih => intro acc; exact (sG acc a).trans (ih _)
theorem tF (l : List α) (k : Nat) : zT (l.take k) <+: zT l := by
 conv => rhs; rw [← List.take_append_drop k l]
 rw [zT, zT, List.foldl_append]
 exact foldl_addNew_prefix _ _
theorem vC (l : List α) : (zT l).length ≤ l.length := by
 have key : ∀ (l acc : List α), (l.foldl yR acc).length ≤ acc.length + l.length := by
  intro l
  induction l with
  | nil => intro acc; simp
  | cons a l ih =>
   intro acc
   rw [List.foldl_cons]
   have h1 := ih (yR acc a)
   have h2 : (yR acc a).length ≤ acc.length + 1 := by unfold yR; split <;> simp
   rw [List.length_cons]; omega
 simpa [zT] using key l []
theorem oY {l m : List α} {x : α} (h : l <+: m) (hx : x ∈ l) : m.idxOf x = l.idxOf x := by
 obtain ⟨r, rfl⟩ := h
 rw [List.idxOf_append, if_pos hx]
theorem idxOf_inj {l : List α} {x y : α} (hx : x ∈ l) (h : l.idxOf x = l.idxOf y) : x = y := by
 have h1 := List.idxOf_lt_length_of_mem hx
 have e1 := List.getElem_idxOf h1
 have e2 := List.getElem_idxOf (show l.idxOf y < l.length by omega)
 rw [← e1, ← e2]; simp only [h]
def numb (l : List α) : List Nat := l.map fun x => (zT l).idxOf x
theorem yF (l : List α) : (numb l).length = l.length := by simp [numb]
theorem tC {l : List α} {i : Nat} (h : i < l.length) : (numb l)[i]'(by rw [yF]; exact h) = (zT l).idxOf l[i] := by simp [numb]
theorem numb_lt {l : List α} : ∀ c ∈ numb l, c < (zT l).length := by
 intro c hc
 obtain ⟨x, hx, rfl⟩ := List.mem_map.1 hc
 exact List.idxOf_lt_length_of_mem (xG.2 hx)
theorem sA {l : List α} {i j : Nat} (hi : i < l.length) (hj : j < l.length) : (numb l).getD i 0 = (numb l).getD j 0 ↔ l[i] = l[j] := by
 simp only [List.getD, List.getElem?_eq_getElem (show i < (numb l).length by rw [yF]; exact hi), List.getElem?_eq_getElem (show j < (numb l).length by rw [yF]; exact hj), Option.getD_some, tC hi, tC hj]
 exact ⟨fun h => idxOf_inj (xG.2 (List.getElem_mem hi)) h, fun h => by rw [h]⟩
theorem jF {l : List α} {k : Nat} (hk : k < l.length) : (zT (l.take (k + 1))).idxOf l[k] = (zT l).idxOf l[k] := by
 refine (oY (tF l (k + 1)) (xG.2 ?_)).symm
 rw [List.take_succ_eq_append_getElem hk]; exact List.mem_append_right _ (List.mem_singleton_self _)
end
def SameKer (p q : List Nat) : Prop := p.length = q.length ∧ ∀ i j, i < p.length → j < p.length → (p.getD i 0 = p.getD j 0 ↔ q.getD i 0 = q.getD j 0)
def Norm (p : List Nat) : Prop := numb p = p
theorem zI {α : Type} {l : List α} {i : Nat} {d : α} (h : i < l.length) : l.getD i d = l[i] := by simp [List.getD, List.getElem?_eq_getElem h]
theorem firsts_map_inj {α β : Type} [DecidableEq α] [DecidableEq β] (f : α → β) (l : List α) (h : ∀ x ∈ l, ∀ y ∈ l, f x = f y → x = y) : zT (l.map f) = (zT l).map f := by
 have key : ∀ (m acc : List α), (∀ x ∈ acc ++ m, ∀ y ∈ acc ++ m, f x = f y → x = y) → (m.map f).foldl yR (acc.map f) = (m.foldl yR acc).map f := by
  intro m
  induction m with
  | nil => intro acc _; rfl
  | cons a m ih =>
   intro acc hh
   rw [List.map_cons, List.foldl_cons, List.foldl_cons]
   have e : yR (acc.map f) (f a) = (yR acc a).map f := by
    unfold yR
    by_cases ha : a ∈ acc
    ·rw [if_pos ha, if_pos (List.mem_map_of_mem ha)]
    ·rw [if_neg ha, if_neg]
     ·simp
     ·intro hm
      obtain ⟨b, hb, e⟩ := List.mem_map.1 hm
      have := hh b (by simp [hb]) a (by simp) e
      subst this
      exact ha hb
   rw [e]
   refine ih _ fun x hx y hy => hh x ?_ y ?_
   ·rw [List.mem_append, rT] at hx; simp; rcases hx with (h | h) | h <;> simp [h]
   ·rw [List.mem_append, rT] at hy; simp; rcases hy with (h | h) | h <;> simp [h]
 have := key l [] (by simpa using h)
 simpa [zT] using this
theorem idxOf_map_inj {α β : Type} [DecidableEq α] [DecidableEq β] (f : α → β) (l : List α) (x : α) (hx : x ∈ l) (h : ∀ y ∈ l, f y = f x → y = x) : (l.map f).idxOf (f x) = l.idxOf x := by
 induction l with
 | nil => simp at hx
 | cons a l ih =>
  rw [List.map_cons, List.idxOf_cons, List.idxOf_cons]
  by_cases e : a = x
  ·subst e; simp
  ·have : f a ≠ f x := fun h' => e (h a (by simp) h')
   simp only [beq_eq_false_iff_ne.2 this, beq_eq_false_iff_ne.2 e, cond_false]
   rw [ih (by simpa [Ne.symm e] using hx) (fun y hy => h y (by simp [hy]))]
theorem lR {α β : Type} [DecidableEq α] [DecidableEq β] : ∀ (l : List α) (m : List β) (he : l.length = m.length), (∀ i j (hi : i < l.length) (hj : j < l.length), (l[i] = l[j] ↔ m[i]'(by omega) = m[j]'(by omega))) → numb l = numb m := by
 intro l m he h
 -- positions of first occurrences
 have key : ∀ (k : Nat) (hk : k ≤ l.length), ∃ ps : List (Fin l.length), zT (l.take k) = ps.map (fun i => l[i]) ∧ zT (m.take k) = ps.map (fun i => m[i.1]'(by omega)) := by
  intro k
  induction k with
  | zero => intro _; exact ⟨[], by simp [zT], by simp [zT]⟩
  | succ k ih =>
   intro hk
   obtain ⟨ps, h1, h2⟩ := ih (by omega)
   have hkl : k < l.length := by omega
   rw [List.take_succ_eq_append_getElem hkl, List.take_succ_eq_append_getElem (show k < m.length by omega), vE, vE, h1, h2]
   have hmem : (l[k] ∈ ps.map (fun i => l[i])) ↔ (m[k]'(by omega) ∈ ps.map (fun i => m[i.1]'(by omega))) := by
    simp only [List.mem_map]
    constructor
    ·rintro ⟨i, hi, e⟩; exact ⟨i, hi, (h i.1 k i.2 hkl).1 e⟩
    ·rintro ⟨i, hi, e⟩; exact ⟨i, hi, (h i.1 k i.2 hkl).2 e⟩
   by_cases hm : l[k] ∈ ps.map (fun i => l[i])
   ·exact ⟨ps, wS hm, wS (hmem.1 hm)⟩
   ·refine ⟨ps ++ [⟨k, hkl⟩], ?_, ?_⟩
    ·rw [xP hm]; simp
    ·rw [xP (fun h' => hm (hmem.2 h'))]; simp
 obtain ⟨ps, h1, h2⟩ := key l.length (Nat.le_refl _)
 rw [List.take_length] at h1
 rw [show m.take l.length = m from List.take_of_length_le (by omega)] at h2
 refine List.ext_getElem (by simp [numb, he]) fun i hi _ => ?_
 rw [yF] at hi
 rw [tC hi, tC (by omega), h1, h2]
 have aux : ∀ (qs : List (Fin l.length)), (qs.map (fun i => l[i])).idxOf l[i] = (qs.map (fun i => m[i.1]'(by omega))).idxOf (m[i]'(by omega)) := by
  intro qs
  induction qs with
  | nil => simp
  | cons a qs ih =>
   rw [List.map_cons, List.map_cons, List.idxOf_cons, List.idxOf_cons, ih]
   have := h a.1 i a.2 hi
   by_cases e : l[a] = l[i]
   ·have e' := this.1 e
    simp only [beq_iff_eq.2 e, beq_iff_eq.2 e']
   ·have e' : ¬ (m[a.1]'(by omega) = m[i]'(by omega)) := fun h' => e (this.2 h')
    simp only [beq_eq_false_iff_ne.2 e, beq_eq_false_iff_ne.2 e']
 exact aux ps
theorem mH {α : Type} [DecidableEq α] (l : List α) : Norm (numb l) := by
 refine lR _ _ (yF l) fun i j hi hj => ?_
 rw [yF] at hi hj
 have := sA (l := l) hi hj
 rw [zI (by rw [yF]; exact hi), zI (by rw [yF]; exact hj)] at this
 exact this
theorem kI {p q : List Nat} (hp : Norm p) (hq : Norm q) (h : SameKer p q) : p = q := by
 rw [← hp, ← hq]
 refine lR _ _ h.1 fun i j hi hj => ?_
 have := h.2 i j hi hj
 rw [zI hi, zI hj, zI (by rw [← h.1]; exact hi), zI (by rw [← h.1]; exact hj)] at this
 exact this
end Go.Proofs.Ytgbfaggnnfoamaa
namespace Go.Proofs.Ytgbfaggnnfoamaa
structure DfaV where
 letters : Int
 start : Int
 final : List Bool
 next : List (List Int)
def rowD (letters : Int) (n : Nat) (r : List Int) : Bool := decide ((r.length : Int) = letters) && r.all fun x => decide (0 ≤ x ∧ x < n)
def tR (d : DfaV) : Int :=
 if d.letters < 1 ∨ 6 < d.letters then 1 else if 512 < d.final.length then 3
 else if d.final.length = 0 ∨ d.next.length ≠ d.final.length ∨ d.start < 0 ∨ d.final.length ≤ d.start then 4
 else if d.next.all (rowD d.letters d.final.length) then 0 else 4
structure VD (d : DfaV) (n k : Nat) : Prop where
 hk : d.letters = k
 k1 : 1 ≤ k
 k6 : k ≤ 6
 hn : d.final.length = n
 n1 : 1 ≤ n
 nbig : n ≤ 4194304
 nl : d.next.length = n
 s0 : 0 ≤ d.start
 sn : d.start < n
 row : ∀ q, q < n → (d.next.getD q []).length = k
 lo : ∀ q a, q < n → a < k → 0 ≤ ent d.next q a
 hi : ∀ q a, q < n → a < k → ent d.next q a < n
theorem kF {k : Int} {n : Nat} {r : List Int} : rowD k n r = true ↔ (r.length : Int) = k ∧ ∀ y, y < r.length → 0 ≤ r.getD y 0 ∧ r.getD y 0 < n := by
 simp only [rowD, Bool.and_eq_true, decide_eq_true_eq, List.all_eq_true]
 refine and_congr_right fun _ => ⟨fun h y hy => ?_, fun h x hx => ?_⟩
 ·have := h (r[y]) (List.getElem_mem hy)
  rwa [← zI (d := 0) hy] at this
 ·obtain ⟨y, hy, rfl⟩ := List.getElem_of_mem hx
  have := h y hy
  rwa [zI hy] at this
theorem nQ {d : DfaV} {n k : Nat} (h : VD d n k) (h5 : n ≤ 512) : tR d = 0 := by
 unfold tR
 rw [if_neg (by have := h.hk; have := h.k1; have := h.k6; omega), if_neg (by have := h.hn; omega),
  if_neg (by have := h.hn; have := h.n1; have := h.nl; have := h.s0; have := h.sn; omega), if_pos]
 rw [List.all_eq_true]
 intro r hr
 obtain ⟨q, hq, rfl⟩ := List.getElem_of_mem hr
 have hq' : q < n := by have := h.nl; omega
 rw [kF]
 have hl := h.row q hq'
 rw [zI hq] at hl
 refine ⟨by rw [hl, h.hk], fun y hy => ?_⟩
 have h1 := h.lo q y hq' (by omega)
 have h2 := h.hi q y hq' (by omega)
 unfold ent at h1 h2
 rw [zI hq] at h1 h2
 rw [h.hn]
 exact ⟨h1, h2⟩
def nx (d : DfaV) (q a : Nat) : Nat := entN d.next q a
theorem nx_cast {d : DfaV} {n k : Nat} (h : VD d n k) {q a : Nat} (hq : q < n) (ha : a < k) : (nx d q a : Int) = ent d.next q a := Int.toNat_of_nonneg (h.lo q a hq ha)
theorem qA {d : DfaV} {n k : Nat} (h : VD d n k) {q a : Nat} (hq : q < n) (ha : a < k) : nx d q a < n := by
 have h1 := nx_cast h hq ha
 have h2 := h.hi q a hq ha
 omega
def st0 (d : DfaV) : Nat := d.start.toNat
theorem lZ {d : DfaV} {n k : Nat} (h : VD d n k) : (st0 d : Int) = d.start := Int.toNat_of_nonneg h.s0
theorem pB {d : DfaV} {n k : Nat} (h : VD d n k) : st0 d < n := by have := lZ h; have := h.sn; omega
def finB (b : Bool) : Int := if b then 1 else 0
def pJ (d : DfaV) : List Nat := numb (d.final.map finB)
def rH (d : DfaV) (p : List Nat) (a : Nat) : List Nat := (List.range p.length).map fun q => p.getD (nx d q a) 0
def jC (m : Nat) (a b : Nat) : Int := (a : Int) * (m + 1) + b
def qB (p q : List Nat) : List Int := List.zipWith (jC p.length) p q
def kP (p q : List Nat) : List Nat := numb (qB p q)
def wN (d : DfaV) (p : List Nat) : Nat → List Nat
 | 0 => p
 | k + 1 => kP (wN d p k) (rH d p k)
theorem sY (d : DfaV) : (pJ d).length = d.final.length := by simp [pJ, yF]
theorem uD (d : DfaV) (p : List Nat) (a : Nat) : (rH d p a).length = p.length := by simp [rH]
theorem tH {p q : List Nat} (h : q.length = p.length) : (qB p q).length = p.length := by simp [qB, h]
theorem both8_length {p q : List Nat} (h : q.length = p.length) : (kP p q).length = p.length := by rw [kP, yF, tH h]
theorem yM (d : DfaV) (p : List Nat) : ∀ k, (wN d p k).length = p.length
 | 0 => rfl
 | k + 1 => by rw [wN, both8_length (by rw [uD, yM d p k]), yM d p k]
theorem rA {p : List Nat} (h : Norm p) : ∀ c ∈ p, c < p.length := by
 intro c hc
 have h1 := numb_lt (l := p)
 rw [h] at h1
 have := h1 c hc
 have := vC p
 omega
theorem pairNo_inj {m a b a' b' : Nat} (hb : b ≤ m) (hb' : b' ≤ m) : jC m a b = jC m a' b' ↔ a = a' ∧ b = b' := by
 unfold jC
 constructor
 ·intro h
  have h' : a * (m + 1) + b = a' * (m + 1) + b' := by exact_mod_cast h
  have e1 : (a * (m + 1) + b) / (m + 1) = a := by rw [Nat.mul_comm, Nat.mul_add_div (by omega), Nat.div_eq_of_lt (by omega)]; omega
  have e2 : (a' * (m + 1) + b') / (m + 1) = a' := by rw [Nat.mul_comm, Nat.mul_add_div (by omega), Nat.div_eq_of_lt (by omega)]; omega
  have ha : a = a' := by rw [← e1, ← e2, h']
  subst ha
  exact ⟨rfl, by omega⟩
 ·rintro ⟨rfl, rfl⟩; rfl
theorem both8_iff {p q : List Nat} (h : q.length = p.length) (hq : ∀ c ∈ q, c < p.length) {i j : Nat} (hi : i < p.length) (hj : j < p.length) :
  (kP p q).getD i 0 = (kP p q).getD j 0 ↔ p.getD i 0 = p.getD j 0 ∧ q.getD i 0 = q.getD j 0 := by
 have hi' : i < (qB p q).length := by rw [tH h]; exact hi
 have hj' : j < (qB p q).length := by rw [tH h]; exact hj
 rw [kP, sA hi' hj']
 simp only [qB, List.getElem_zipWith]
 rw [pairNo_inj (Nat.le_of_lt (hq _ (List.getElem_mem _))) (Nat.le_of_lt (hq _ (List.getElem_mem _))), zI hi, zI hj, zI (show i < q.length by omega), zI (show j < q.length by omega)]
theorem mL {d : DfaV} {p : List Nat} {a i : Nat} (hi : i < p.length) : (rH d p a).getD i 0 = p.getD (nx d i a) 0 := by
 rw [zI (by rw [uD]; exact hi)]; simp [rH]
theorem uP {p : List Nat} {n i : Nat} (h : ∀ c ∈ p, c < n) (hn : 0 < n) : p.getD i 0 < n := by
 by_cases hi : i < p.length
 ·rw [zI hi]; exact h _ (List.getElem_mem hi)
 ·rw [List.getD, List.getElem?_eq_none (by omega)]; exact hn
theorem uS {d : DfaV} {n k : Nat} (hd : VD d n k) {p : List Nat} (hp : p.length = n) (hlt : ∀ c ∈ p, c < n) {i j : Nat} (hi : i < n) (hj : j < n) :
  ∀ m, m ≤ k → ((wN d p m).getD i 0 = (wN d p m).getD j 0 ↔ p.getD i 0 = p.getD j 0 ∧ ∀ a, a < m → p.getD (nx d i a) 0 = p.getD (nx d j a) 0)
 | 0, _ => by simp [wN]
 | m + 1, hm => by
  rw [wN, both8_iff (by rw [uD, yM]) (fun c hc => ?_) (by rw [yM]; omega) (by rw [yM]; omega), uS hd hp hlt hi hj m (by omega), mL (by omega), mL (by omega)]
  ·constructor
   ·rintro ⟨⟨h1, h2⟩, h3⟩
    refine ⟨h1, fun a ha => ?_⟩
    rcases Nat.lt_succ_iff_lt_or_eq.1 ha with ha | rfl
    ·exact h2 a ha
    ·exact h3
   ·rintro ⟨h1, h2⟩
    exact ⟨⟨h1, fun a ha => h2 a (by omega)⟩, h2 m (by omega)⟩
  ·rw [yM, hp]
   obtain ⟨q, hq, rfl⟩ := List.mem_map.1 hc
   exact uP hlt hd.n1
theorem rP {d : DfaV} {p : List Nat} (hp : Norm p) : ∀ m, Norm (wN d p m)
 | 0 => hp
 | m + 1 => mH _
def cls (p : List Nat) : Nat := (zT p).length
theorem cls_mono {p q : List Nat} (hl : q.length = p.length) (h : ∀ i j, i < p.length → j < p.length → q.getD i 0 = q.getD j 0 → p.getD i 0 = p.getD j 0) :
  cls p ≤ cls q ∧ (cls p = cls q → ∀ i j, i < p.length → j < p.length → p.getD i 0 = p.getD j 0 → q.getD i 0 = q.getD j 0) := by
 -- the classes of q are mapped onto those of p
 let f : Nat → Nat := fun c => p.getD (q.idxOf c) 0
 have hf : ∀ i, i < p.length → f (q.getD i 0) = p.getD i 0 := by
  intro i hi
  have hi' : i < q.length := by omega
  have hm : q.getD i 0 ∈ q := by rw [zI hi']; exact List.getElem_mem _
  have hlt := List.idxOf_lt_length_of_mem hm
  refine h _ i (by omega) hi ?_
  rw [zI hlt, List.getElem_idxOf]
 have hsub : ∀ c ∈ zT p, c ∈ (zT q).map f := by
  intro c hc
  obtain ⟨i, hi, rfl⟩ := List.getElem_of_mem (xG.1 hc)
  rw [List.mem_map]
  refine ⟨q.getD i 0, xG.2 (by rw [zI (by omega)]; exact List.getElem_mem _), ?_⟩
  rw [hf i hi, zI hi]
 have hle : (zT p).length ≤ ((zT q).map f).length := (uC p).length_le_of_subset hsub
 rw [List.length_map] at hle
 refine ⟨hle, fun e i j hi hj hp => ?_⟩
 have hinj : ∀ x ∈ zT q, ∀ y ∈ zT q, f x = f y → x = y := by
  intro x hx y hy hxy
  apply Classical.byContradiction
  intro hne
  have hsub2 : ∀ c ∈ zT p, c ∈ ((zT q).erase x).map f := by
   intro c hc
   obtain ⟨z, hz, rfl⟩ := List.mem_map.1 (hsub c hc)
   by_cases e : z = x
   ·subst e
    exact List.mem_map.2 ⟨y, (List.mem_erase_of_ne (Ne.symm hne)).2 hy, hxy.symm⟩
   ·exact List.mem_map.2 ⟨z, (List.mem_erase_of_ne e).2 hz, rfl⟩
  have h1 := (uC p).length_le_of_subset hsub2
  rw [List.length_map, List.length_erase_of_mem hx] at h1
  have h2 := List.length_pos_of_mem hx
  unfold cls at e
  omega
 have mem : ∀ i, i < p.length → q.getD i 0 ∈ zT q := fun i hi => xG.2 (by rw [zI (by omega)]; exact List.getElem_mem _)
 exact hinj _ (mem i hi) _ (mem j hj) (by rw [hf i hi, hf j hj, hp])
end Go.Proofs.Ytgbfaggnnfoamaa
