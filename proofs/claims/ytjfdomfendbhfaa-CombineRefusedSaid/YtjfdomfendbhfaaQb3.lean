/- Part 3 of the proof: Numb, PVal, CombP. -/
import Derived.Test.YtjfdomfendbhfaaQb2
set_option linter.unusedVariables false
set_option linter.unusedSimpArgs false
namespace Go.Proofs.Ytjfdomfendbhfaa
def xK {α : Type} [DecidableEq α] (acc : List α) (x : α) : List α := if x ∈ acc then acc else acc ++ [x]
def yC {α : Type} [DecidableEq α] (l : List α) : List α := l.foldl xK []
section
variable {α : Type} [DecidableEq α]
theorem sH {acc : List α} {x : α} (h : x ∈ acc) : xK acc x = acc := if_pos h
theorem vQ {acc : List α} {x : α} (h : x ∉ acc) : xK acc x = acc ++ [x] := if_neg h
theorem oB {acc : List α} {x y : α} : y ∈ xK acc x ↔ y ∈ acc ∨ y = x := by
 unfold xK
 split
 ·rename_i h
  exact ⟨.inl, fun h' => by rcases h' with h' | rfl <;> assumption⟩
 ·simp
theorem sT (l : List α) (x : α) : yC (l ++ [x]) = xK (yC l) x := by simp [yC, List.foldl_append]
theorem mem_foldl_addNew (l : List α) : ∀ (acc : List α) (y : α), y ∈ l.foldl xK acc ↔ y ∈ acc ∨ y ∈ l := by
 induction l with
 | nil => intro acc y; simp
 | cons a l ih => intro acc y; rw [List.foldl_cons, ih, oB, List.mem_cons]; exact or_assoc
theorem xX {l : List α} {y : α} : y ∈ yC l ↔ y ∈ l := by rw [yC, mem_foldl_addNew]; simp
theorem lY {acc : List α} {x : α} (h : acc.Nodup) : (xK acc x).Nodup := by
 unfold xK
 split
 ·exact h
 ·rename_i hx
  rw [List.nodup_append]
  exact ⟨h, by simp, fun a ha b hb => by rw [List.mem_singleton] at hb; subst hb; rintro rfl; exact hx ha⟩
theorem foldl_addNew_nodup (l : List α) : ∀ {acc : List α}, acc.Nodup → (l.foldl xK acc).Nodup := by
 induction l with
 | nil => intro acc h; exact h
 | cons a l ih => intro acc h; exact ih (lY h)
theorem tO (l : List α) : (yC l).Nodup := foldl_addNew_nodup l (by simp)
theorem pA (acc : List α) (x : α) : acc <+: xK acc x := by
 unfold xK; split
 ·exact List.prefix_refl _
 ·exact List.prefix_append _ _
theorem foldl_addNew_prefix (l : List α) : ∀ (acc : List α), acc <+: l.foldl xK acc := by
 induction l with
 | nil => intro acc; exact List.prefix_refl _
 | cons a l ih => intro acc; exact (pA acc a).trans (ih _)
theorem rO (l : List α) (k : Nat) : yC (l.take k) <+: yC l := by
 conv => rhs; rw [← List.take_append_drop k l]
 rw [yC, yC, List.foldl_append]
 exact foldl_addNew_prefix _ _
theorem tS (l : List α) : (yC l).length ≤ l.length := by
 have key : ∀ (l acc : List α), (l.foldl xK acc).length ≤ acc.length + l.length := by
  intro l
  induction l with
  | nil => intro acc; simp
  | cons a l ih =>
   intro acc
   rw [List.foldl_cons]
   have h1 := ih (xK acc a)
   have h2 : (xK acc a).length ≤ acc.length + 1 := by unfold xK; split <;> simp
   rw [List.length_cons]; omega
 simpa [yC] using key l []
theorem lT {l m : List α} {x : α} (h : l <+: m) (hx : x ∈ l) : m.idxOf x = l.idxOf x := by
 obtain ⟨r, rfl⟩ := h
 rw [List.idxOf_append, if_pos hx]
theorem idxOf_inj {l : List α} {x y : α} (hx : x ∈ l) (h : l.idxOf x = l.idxOf y) : x = y := by
 have h1 := List.idxOf_lt_length_of_mem hx
 have e1 := List.getElem_idxOf h1
 have e2 := List.getElem_idxOf (show l.idxOf y < l.length by omega)
 rw [← e1, ← e2]; simp only [h]
def numb (l : List α) : List Nat := l.map fun x => (yC l).idxOf x
theorem yS (l : List α) : (numb l).length = l.length := by simp [numb]
theorem qN {l : List α} {i : Nat} (h : i < l.length) : (numb l)[i]'(by rw [yS]; exact h) = (yC l).idxOf l[i] := by simp [numb]
theorem numb_lt {l : List α} : ∀ c ∈ numb l, c < (yC l).length := by
 intro c hc
 obtain ⟨x, hx, rfl⟩ := List.mem_map.1 hc
 exact List.idxOf_lt_length_of_mem (xX.2 hx)
theorem qO {l : List α} {i j : Nat} (hi : i < l.length) (hj : j < l.length) : (numb l).getD i 0 = (numb l).getD j 0 ↔ l[i] = l[j] := by
 simp only [List.getD, List.getElem?_eq_getElem (show i < (numb l).length by rw [yS]; exact hi), List.getElem?_eq_getElem (show j < (numb l).length by rw [yS]; exact hj), Option.getD_some, qN hi, qN hj]
 exact ⟨fun h => idxOf_inj (xX.2 (List.getElem_mem hi)) h, fun h => by rw [h]⟩
theorem numb_take {l : List α} {k : Nat} (hk : k < l.length) : (yC (l.take (k + 1))).idxOf l[k] = (yC l).idxOf l[k] := by
 refine (lT (rO l (k + 1)) (xX.2 ?_)).symm
 rw [List.take_succ_eq_append_getElem hk]; exact List.mem_append_right _ (List.mem_singleton_self _)
end
def SameKer (p q : List Nat) : Prop := p.length = q.length ∧ ∀ i j, i < p.length → j < p.length → (p.getD i 0 = p.getD j 0 ↔ q.getD i 0 = q.getD j 0)
def Norm (p : List Nat) : Prop := numb p = p
theorem zI {α : Type} {l : List α} {i : Nat} {d : α} (h : i < l.length) : l.getD i d = l[i] := by simp [List.getD, List.getElem?_eq_getElem h]
theorem firsts_map_inj {α β : Type} [DecidableEq α] [DecidableEq β] (f : α → β) (l : List α) (h : ∀ x ∈ l, ∀ y ∈ l, f x = f y → x = y) : yC (l.map f) = (yC l).map f := by
 have key : ∀ (m acc : List α), (∀ x ∈ acc ++ m, ∀ y ∈ acc ++ m, f x = f y → x = y) → (m.map f).foldl xK (acc.map f) = (m.foldl xK acc).map f := by
  intro m
  induction m with
  | nil => intro acc _; rfl
  | cons a m ih =>
   intro acc hh
   rw [List.map_cons, List.foldl_cons, List.foldl_cons]
   have e : xK (acc.map f) (f a) = (xK acc a).map f := by
    unfold xK
    by_cases ha : a ∈ acc
    ·rw [if_pos ha, if_pos (List.mem_map_of_mem ha)]
    ·rw [if_neg ha, if_neg]
     ·simp
     ·intro hm
      obtain ⟨b, hb, e⟩ := List.mem_map.1 hm
      have := hh b (by simp [hb]) a (by simp) e
      subst this
      exact ha hb
   rw [e]
   refine ih _ fun x hx y hy => hh x ?_ y ?_
   ·rw [List.mem_append, oB] at hx; simp; rcases hx with (h | h) | h <;> simp [h]
   ·rw [List.mem_append, oB] at hy; simp; rcases hy with (h | h) | h <;> simp [h]
 have := key l [] (by simpa using h)
 simpa [yC] using this
theorem idxOf_map_inj {α β : Type} [DecidableEq α] [DecidableEq β] (f : α → β) (l : List α) (x : α) (hx : x ∈ l) (h : ∀ y ∈ l, f y = f x → y = x) : (l.map f).idxOf (f x) = l.idxOf x := by
 induction l with
 | nil => simp at hx
 | cons a l ih =>
  rw [List.map_cons, List.idxOf_cons, List.idxOf_cons]
  by_cases e : a = x
  ·subst e; simp
  ·have : f a ≠ f x := fun h' => e (h a (by simp) h')
   simp only [beq_eq_false_iff_ne.2 this, beq_eq_false_iff_ne.2 e, cond_false]
   rw [ih (by simpa [Ne.symm e] using hx) (fun y hy => h y (by simp [hy]))]
theorem numb_congr {α β : Type} [DecidableEq α] [DecidableEq β] : ∀ (l : List α) (m : List β) (he : l.length = m.length), (∀ i j (hi : i < l.length) (hj : j < l.length), (l[i] = l[j] ↔ m[i]'(by omega) = m[j]'(by omega))) → numb l = numb m := by
 intro l m he h
 -- positions of first occurrences
 have key : ∀ (k : Nat) (hk : k ≤ l.length), ∃ ps : List (Fin l.length), yC (l.take k) = ps.map (fun i => l[i]) ∧ yC (m.take k) = ps.map (fun i => m[i.1]'(by omega)) := by
  intro k
  induction k with
  | zero => intro _; exact ⟨[], by simp [yC], by simp [yC]⟩
  | succ k ih =>
   intro hk
   obtain ⟨ps, h1, h2⟩ := ih (by omega)
   have hkl : k < l.length := by omega
   rw [List.take_succ_eq_append_getElem hkl, List.take_succ_eq_append_getElem (show k < m.length by omega), sT, sT, h1, h2]
   have hmem : (l[k] ∈ ps.map (fun i => l[i])) ↔ (m[k]'(by omega) ∈ ps.map (fun i => m[i.1]'(by omega))) := by
    simp only [List.mem_map]
    constructor
    ·rintro ⟨i, hi, e⟩; exact ⟨i, hi, (h i.1 k i.2 hkl).1 e⟩
    ·rintro ⟨i, hi, e⟩; exact ⟨i, hi, (h i.1 k i.2 hkl).2 e⟩
   by_cases hm : l[k] ∈ ps.map (fun i => l[i])
   ·exact ⟨ps, sH hm, sH (hmem.1 hm)⟩
   ·refine ⟨ps ++ [⟨k, hkl⟩], ?_, ?_⟩
    ·rw [vQ hm]; simp
    ·rw [vQ (fun h' => hm (hmem.2 h'))]; simp
 obtain ⟨ps, h1, h2⟩ := key l.length (Nat.le_refl _)
 rw [List.take_length] at h1
 rw [show m.take l.length = m from List.take_of_length_le (by omega)] at h2
 refine List.ext_getElem (by simp [numb, he]) fun i hi _ => ?_
 rw [yS] at hi
 rw [qN hi, qN (by omega), h1, h2]
 have aux : ∀ (qs : List (Fin l.length)), (qs.map (fun i => l[i])).idxOf l[i] = (qs.map (fun i => m[i.1]'(by omega))).idxOf (m[i]'(by omega)) := by
  intro qs
  induction qs with
  | nil => simp
  | cons a qs ih =>
   rw [List.map_cons, List.map_cons, List.idxOf_cons, List.idxOf_cons, ih]
   have := h a.1 i a.2 hi
   by_cases e : l[a] = l[i]
   ·have e' := this.1 e
    simp only [beq_iff_eq.2 e, beq_iff_eq.2 e']
   ·have e' : ¬ (m[a.1]'(by omega) = m[i]'(by omega)) := fun h' => e (this.2 h')
    simp only [beq_eq_false_iff_ne.2 e, beq_eq_false_iff_ne.2 e']
 exact aux ps
theorem jP {α : Type} [DecidableEq α] (l : List α) : Norm (numb l) := by
 refine numb_congr _ _ (yS l) fun i j hi hj => ?_
 rw [yS] at hi hj
 have := qO (l := l) hi hj
 rw [zI (by rw [yS]; exact hi), zI (by rw [yS]; exact hj)] at this
 exact this
theorem norm_ext {p q : List Nat} (hp : Norm p) (hq : Norm q) (h : SameKer p q) : p = q := by
 rw [← hp, ← hq]
 refine numb_congr _ _ h.1 fun i j hi hj => ?_
 have := h.2 i j hi hj
 rw [zI hi, zI hj, zI (by rw [← h.1]; exact hi), zI (by rw [← h.1]; exact hj)] at this
 exact this
end Go.Proofs.Ytjfdomfendbhfaa
namespace Go.Proofs.Ytjfdomfendbhfaa
open Go.RowKit
def txtV (bs : List ByteArray) : List Value := bs.map .string
theorem yA (bs : List ByteArray) : (txtV bs).length = bs.length := by simp [txtV]
theorem uH {w : World} {b off : Nat} {bs : List ByteArray} (h : vU w b off (txtV bs)) (i : Nat) (hi : i < bs.length) : w.cell? ⟨b, off + i, none⟩ = some (.string (bs.getD i ⟨#[]⟩)) := by
 rw [h.map i hi, zI hi]
def totW (bs : List ByteArray) : Int := bs.foldl (fun a b => wrap64 (a + (b.size : Int))) 0
theorem kU (bs : List ByteArray) (k : Nat) (hk : k < bs.length) : totW (bs.take (k + 1)) = wrap64 (totW (bs.take k) + ((bs.getD k ⟨#[]⟩).size : Int)) := by
 rw [List.take_succ_eq_append_getElem hk, totW, List.foldl_append, zI hk]; rfl
theorem totW_eq (bs : List ByteArray) (h : ∀ i (hi : i < bs.length), bs[i].size ≤ 4294967296) (hl : bs.length ≤ 4096) : ∀ k, k ≤ bs.length → totW (bs.take k) = (sZ (bs.take k) : Int) ∧ sZ (bs.take k) ≤ k * 4294967296
 | 0, _ => ⟨rfl, by simp [sZ]⟩
 | k + 1, hk => by
  obtain ⟨h1, h2⟩ := totW_eq bs h hl k (by omega)
  have h3 := h k (by omega)
  rw [kU bs k (by omega), h1, total_succ bs k (by omega), zI (show k < bs.length by omega)]
  refine ⟨?_, by omega⟩
  rw [← Int.natCast_add]
  exact IntWalk.wrap64_in _ (by omega)
def patW (bs : List ByteArray) (letters : Int) : Int :=
 if letters < 1 ∨ 6 < letters then 1 else if 8 < bs.length then 3 else if 64 < totW bs then 3
 else if bs.length = 0 then 22 else if wE bs.length letters 0 bs then 0 else 22
theorem ok_sizes {bs : List ByteArray} {letters : Int} : ∀ {n i : Nat}, wE n letters i bs = true → ∀ j (hj : j < bs.length), bs[j].size ≤ 2048 := by
 induction bs with
 | nil => intro n i _ j hj; simp at hj
 | cons u us ih =>
  intro n i h j hj
  rw [wE, Bool.and_eq_true] at h
  cases j with
  | zero =>
   have h1 := h.1
   simp only [vS, zU, Bool.and_eq_true, decide_eq_true_eq] at h1
   exact h1.1.1.2.2
  | succ j => simpa using ih h.2 j (by simpa using hj)
theorem patW_facts {bs : List ByteArray} {letters : Int} (h : patW bs letters = 0) : ¬ (letters < 1 ∨ 6 < letters) ∧ ¬ 8 < bs.length ∧ ¬ 64 < totW bs ∧ ¬ bs.length = 0 ∧ wE bs.length letters 0 bs = true := by
 unfold patW at h
 split at h
 ·omega
 split at h
 ·omega
 split at h
 ·omega
 split at h
 ·omega
 split at h
 ·exact ⟨by assumption, by assumption, by assumption, by assumption, by assumption⟩
 ·omega
theorem jG {bs : List ByteArray} {letters : Int} (h1 : ¬ (letters < 1 ∨ 6 < letters)) (h2 : ¬ 8 < bs.length) (h3 : ¬ 64 < totW bs) (h4 : ¬ bs.length = 0) : patW bs letters = if wE bs.length letters 0 bs then 0 else 22 := by
 unfold patW
 rw [if_neg h1, if_neg h2, if_neg h3, if_neg h4]
theorem tot_same {bs : List ByteArray} {letters : Int} (h2 : ¬ 8 < bs.length) (h3 : wE bs.length letters 0 bs = true) : totW bs = (sZ bs : Int) := by
 have hs := ok_sizes h3
 have ht := (totW_eq bs (fun i hi => by have := hs i hi; omega) (by omega) bs.length (Nat.le_refl _)).1
 rwa [List.take_length] at ht
theorem wO {bs : List ByteArray} {letters : Int} : patW bs letters = 0 ↔ yJ bs letters = 0 := by
 constructor
 ·intro h
  obtain ⟨h1, h2, h3, h4, h5⟩ := patW_facts h
  rw [oM (by omega) (by omega) h2 (by have := tot_same h2 h5; omega) h4, if_pos h5]
 ·intro h
  obtain ⟨h1, h2, h3, h4, h5, h6⟩ := wD h
  rw [jG (by omega) (by omega) (by have := tot_same (by omega) h6; omega) (by omega), if_pos h6]
set_option maxRecDepth 100000 in
set_option maxHeartbeats 400000 in
theorem nY (B : Nat) (w : World) (v : Value) (bs : List ByteArray) (letters : Int) (h : Row B w v (txtV bs)) (hs : ∀ i (hi : i < bs.length), bs[i].size ≤ maxLen) :
    Calls Try.prog 36 #[.agg #[v], .int .i64 letters] w fun e w' => e = .returned (.int .i64 (patW bs letters)) ∧ w.grownBy w' none := by
  have hlm := h.len_le
  rw [yA] at hlm
  have hlm' : bs.length ≤ 9223372036854775807 := by unfold maxLen at hlm; omega
  have H := Kh h; have HS := Kh hs
  obtain ⟨a, cap, rfl⟩ := h.shape
  rw [yA] at H ⊢
  clear h hs hlm
  by_cases h1 : letters < 1
  · go_enter Try.func36, Try.ntmps36
    go_wp2
    go_ret
    exact ⟨yE (by simp [patW, h1]), World.grownBy_alloc _ _ _⟩
  by_cases h2 : 6 < letters
  · go_enter Try.func36, Try.ntmps36
    go_wp2
    go_ret
    exact ⟨yE (by simp [patW, h2]), World.grownBy_alloc _ _ _⟩
  by_cases h3 : 8 < bs.length
  · have h3' : (8 : Int) < bs.length := by omega
    go_enter Try.func36, Try.ntmps36
    go_wp2
    go_ret
    exact ⟨yE (by simp [patW, h1, h2, h3]), World.grownBy_alloc _ _ _⟩
  have h3' : ¬ (8 : Int) < bs.length := by omega
  go_enter Try.func36, Try.ntmps36
  go_wp2
  go_loopg [5, 7, 24] bs.length (fun gh t a7 i wr => w.alloc (.cells #[.slice a bs.length cap] 28) = wr ∧ ∃ k : Nat, gh + k = bs.length ∧ i = .int .i64 k ∧ t = .int .i64 (totW (bs.take k)))
  case atStart => exact ⟨rfl, 0, rfl, rfl, rfl⟩
  case round =>
    obtain ⟨hw, k, hgh, rfl, rfl⟩ := hrel
    have HGH := Kh hgh
    clear hgh
    by_cases hlt : k < bs.length
    · have hlt' : (k : Int) < bs.length := by omega
      obtain ⟨kb, off, kc, e, _, hk1, hk2, hkr⟩ := (H.out.kept (World.grownBy_alloc w (.cells #[.slice a bs.length cap] 28) none) (by simp)).some_ (by rw [yA]; omega)
      rw [hw] at hkr
      rw [yA] at e hk1
      simp only [Value.slice.injEq] at e
      obtain ⟨rfl, _, rfl⟩ := e
      have hc := uH hkr k hlt
      have HS2 := Kh (kU bs k hlt)
      obtain ⟨u, hu⟩ : ∃ u, u = bs.getD k ⟨#[]⟩ := ⟨_, rfl⟩
      have hus : u.size ≤ 9223372036854775807 := by
        rw [hu, zI hlt]; have := HS.out k hlt; unfold maxLen at this; omega
      rw [← hu] at hc HS2
      have HW := Kh hw
      clear hkr hu hw
      go_wp2
      go_roundg (bs.length - (k + 1))
      case measure => have := HGH.out; omega
      case rel => exact ⟨HW.out, k + 1, by have := HGH.out; omega, by go_num, by rw [HS2.out]⟩
    · have hkn : k = bs.length := by have := HGH.out; omega
      have HT : Hid (totW (bs.take k) = totW bs) := Kh (by rw [hkn, List.take_length])
      rw [HT.out]
      have hkn' : ¬ (k : Int) < bs.length := by omega
      have HG : Hid (w.grownBy wr none) := Kh (by rw [← hw]; exact World.grownBy_alloc _ _ _)
      have hb := heap_alloc_new w (.cells #[.slice a bs.length cap] 28)
      rw [hw] at hb
      have c0 : wr.cell? ⟨w.heap.size, 0, none⟩ = some (.slice a bs.length cap) := by simpa using zO hb 0 (by simp)
      have HR : Hid (Row B wr (.slice a bs.length cap) (txtV bs)) := Kh (H.out.kept HG.out (by simp))
      clear hkn hw hb HGH
      obtain ⟨tw, htw⟩ : ∃ tw, tw = totW bs := ⟨_, rfl⟩
      rw [← htw]
      have HTW := Kh htw
      clear htw
      by_cases h4 : 64 < tw
      · go_wp2
        go_ret
        exact ⟨yE (by rw [patW, if_neg (by omega), if_neg (by omega), if_pos (by rw [← HTW.out]; omega)]), HG.out⟩
      by_cases h5 : bs.length = 0
      · have h5' : ((bs.length : Int) == 0) = true := by simp [h5]
        have H5 := Kh h5; clear h5
        go_wp2
        go_ret
        exact ⟨yE (by rw [patW, if_neg (by omega), if_neg (by omega), if_neg (by rw [← HTW.out]; omega), if_pos H5.out]), HG.out⟩
      have h5' : ((bs.length : Int) == 0) = false := by rw [beq_eq_false_iff_ne]; omega
      go_wp2
      go_loopg [8, 9, 42] bs.length (fun gh a8 a9 i wq => wr = wq ∧ ∃ k : Nat, gh + k = bs.length ∧ i = .int .i64 k ∧ wE bs.length letters k (bs.drop k) = wE bs.length letters 0 bs)
      case atStart => exact ⟨rfl, 0, rfl, rfl, rfl⟩
      case round =>
        obtain ⟨rfl, j, hgh, rfl, hok⟩ := hrel
        have HGH := Kh hgh; have HOK := Kh hok
        clear hgh hok
        by_cases hj : j < bs.length
        · have hj' : (j : Int) < bs.length := by omega
          obtain ⟨kb, off, kc, e, _, hk1, hk2, hkr⟩ := HR.out.some_ (by rw [yA]; omega)
          rw [yA] at e hk1
          simp only [Value.slice.injEq] at e
          obtain ⟨rfl, _, rfl⟩ := e
          have hc := uH hkr j hj
          obtain ⟨u, hu⟩ : ∃ u, u = bs.getD j ⟨#[]⟩ := ⟨_, rfl⟩
          have hus : u.size ≤ maxLen := by rw [hu, zI hj]; exact HS.out j hj
          rw [← hu] at hc
          have HU : Hid (u = bs[j]) := Kh (by rw [hu, zI hj])
          clear hkr hu
          go_wp2_with (go_at_call 39; refine (tW u letters _ hus).mono ?_; rintro e w' ⟨rfl, rfl⟩)
          all_goals first
            | (go_ret
               exact ⟨yE (by rw [jG (by omega) (by omega) (by rw [← HTW.out]; omega) (by omega), okFrom_bad hj (by rw [← HU.out]; first | exact jN (by assumption) (by assumption) (by assumption) | exact jO (by assumption)) HOK.out]; rfl), HG.out⟩)
            | (go_roundg (bs.length - (j + 1))
               case rel => exact ⟨rfl, j + 1, by have := HGH.out; omega, by go_num, jK hj (jM (by rw [← HU.out]; assumption) (by rw [← HU.out]; first | (left; omega) | (right; assumption))) HOK.out⟩
               case measure => have := HGH.out; omega)
        · have hj' : ¬ (j : Int) < bs.length := by omega
          have e : wE bs.length letters j (bs.drop j) = true := by rw [List.drop_eq_nil_of_le (by omega)]; rfl
          have HE := Kh e
          clear e
          go_wp2
          go_ret
          exact ⟨yE (by rw [jG (by omega) (by omega) (by rw [← HTW.out]; omega) (by omega), ← HOK.out, HE.out]; rfl), HG.out⟩
end Go.Proofs.Ytjfdomfendbhfaa
namespace Go.Proofs.Ytjfdomfendbhfaa
structure ChoV where
 p : Int
 y : Int
 n : Int
deriving Inhabited, DecidableEq
structure DiaV where
 pats : List (List ByteArray)
 chos : List ChoV
 root : Int
def refB (cs : List ChoV) (i : Nat) (p r : Int) : Bool := decide (0 ≤ r ∧ r ≤ 1 + (i : Int)) && decide (r < 2 ∨ p < (cs.getD (r.toNat - 2) default).p)
def choB (np : Nat) (cs : List ChoV) (i : Nat) : Bool :=
 decide (0 ≤ (cs.getD i default).p ∧ (cs.getD i default).p < np) && (refB cs i (cs.getD i default).p (cs.getD i default).y && refB cs i (cs.getD i default).p (cs.getD i default).n)
def vL (letters : Int) : List (List ByteArray) → Int
 | [] => 0
 | p :: ps => if patW p letters = 0 then vL letters ps else patW p letters
def chosE (np : Nat) (cs : List ChoV) (root : Int) : Int := if (List.range cs.length).all (choB np cs) = true ∧ 0 ≤ root ∧ root ≤ 1 + (cs.length : Int) then 0 else 22
def diaE (g : DiaV) (letters : Int) : Int :=
 if letters < 1 ∨ 6 < letters then 1 else if 300 < g.pats.length ∨ 20000 < g.chos.length then 3
 else if vL letters g.pats = 0 then chosE g.pats.length g.chos g.root else vL letters g.pats
theorem patsE_step {letters : Int} {ps : List (List ByteArray)} {k : Nat} (hk : k < ps.length) (h : patW (ps.getD k []) letters = 0) : vL letters (ps.drop (k + 1)) = vL letters (ps.drop k) := by
 rw [List.drop_eq_getElem_cons hk, vL, if_pos (by rw [zI hk] at h; exact h)]
theorem patsE_bad {letters : Int} {ps : List (List ByteArray)} {k : Nat} (hk : k < ps.length) (h : patW (ps.getD k []) letters ≠ 0) : vL letters (ps.drop k) = patW (ps.getD k []) letters := by
 rw [List.drop_eq_getElem_cons hk, vL, if_neg (by rw [zI hk] at h; exact h), zI hk]
theorem patsE_end {letters : Int} {ps : List (List ByteArray)} {k : Nat} (hk : ¬ k < ps.length) : vL letters (ps.drop k) = 0 := by
 rw [List.drop_eq_nil_of_le (by omega)]; rfl
theorem vK {letters : Int} : ∀ {ps : List (List ByteArray)}, vL letters ps = 0 ↔ ∀ p ∈ ps, patW p letters = 0
 | [] => by simp [vL]
 | p :: ps => by
  rw [vL]
  split
  ·rename_i h; rw [vK]; simp [h]
  ·rename_i h; simp [h]
def wF (np : Nat) (cs : List ChoV) (k : Nat) : Prop := ∀ i, i < k → choB np cs i = true
theorem chosTo_zero (np : Nat) (cs : List ChoV) : wF np cs 0 := fun i hi => by omega
theorem iI {np : Nat} {cs : List ChoV} {k : Nat} (h : wF np cs k) (hk : choB np cs k = true) : wF np cs (k + 1) := fun i hi => by
 rcases Nat.lt_succ_iff_lt_or_eq.1 hi with hi | rfl
 ·exact h i hi
 ·exact hk
theorem mG {np : Nat} {cs : List ChoV} {root : Int} {k : Nat} (hk : k < cs.length) (h : choB np cs k = false) : chosE np cs root = 22 := by
 unfold chosE
 rw [if_neg]
 rintro ⟨h1, _⟩
 rw [List.all_eq_true] at h1
 have := h1 k (List.mem_range.2 hk)
 rw [h] at this
 cases this
theorem chosE_end {np : Nat} {cs : List ChoV} {root : Int} {k : Nat} (hk : ¬ k < cs.length) (h : wF np cs k) : chosE np cs root = if 0 ≤ root ∧ root ≤ 1 + (cs.length : Int) then 0 else 22 := by
 unfold chosE
 have : (List.range cs.length).all (choB np cs) = true := List.all_eq_true.2 fun i hi => h i (by have := List.mem_range.1 hi; omega)
 rw [this]; simp
theorem chosE_zero {np : Nat} {cs : List ChoV} {root : Int} (h : chosE np cs root = 0) : wF np cs cs.length ∧ 0 ≤ root ∧ root ≤ 1 + (cs.length : Int) := by
 unfold chosE at h
 split at h
 ·rename_i h1
  exact ⟨fun i hi => List.all_eq_true.1 h1.1 i (List.mem_range.2 hi), h1.2⟩
 ·omega
theorem chosE_of {np : Nat} {cs : List ChoV} {root : Int} (h : wF np cs cs.length) (h1 : 0 ≤ root) (h2 : root ≤ 1 + (cs.length : Int)) : chosE np cs root = 0 := by
 rw [chosE_end (Nat.lt_irrefl _) h, if_pos ⟨h1, h2⟩]
theorem diaE_zero {g : DiaV} {letters : Int} (h : diaE g letters = 0) : 1 ≤ letters ∧ letters ≤ 6 ∧ g.pats.length ≤ 300 ∧ g.chos.length ≤ 20000 ∧ (∀ p ∈ g.pats, patW p letters = 0) ∧ wF g.pats.length g.chos g.chos.length ∧ 0 ≤ g.root ∧ g.root ≤ 1 + (g.chos.length : Int) := by
 unfold diaE at h
 split at h
 ·omega
 split at h
 ·omega
 split at h
 ·rename_i h3
  obtain ⟨h4, h5, h6⟩ := chosE_zero h
  exact ⟨by omega, by omega, by omega, by omega, vK.1 h3, h4, h5, h6⟩
 ·omega
theorem diaE_of {g : DiaV} {letters : Int} (h1 : 1 ≤ letters) (h2 : letters ≤ 6) (h3 : g.pats.length ≤ 300) (h4 : g.chos.length ≤ 20000) (h5 : ∀ p ∈ g.pats, patW p letters = 0) (h6 : wF g.pats.length g.chos g.chos.length) (h7 : 0 ≤ g.root) (h8 : g.root ≤ 1 + (g.chos.length : Int)) : diaE g letters = 0 := by
 unfold diaE
 rw [if_neg (by omega), if_neg (by omega), if_pos (vK.2 h5), chosE_of h6 h7 h8]
theorem diaE_arg {g : DiaV} {letters : Int} (h : letters < 1 ∨ 6 < letters) : diaE g letters = 1 := if_pos h
theorem diaE_lim {g : DiaV} {letters : Int} (h : ¬ (letters < 1 ∨ 6 < letters)) (h2 : 300 < g.pats.length ∨ 20000 < g.chos.length) : diaE g letters = 3 := by
 unfold diaE; rw [if_neg h, if_pos h2]
theorem diaE_pat {g : DiaV} {letters : Int} (h : ¬ (letters < 1 ∨ 6 < letters)) (h2 : ¬ (300 < g.pats.length ∨ 20000 < g.chos.length)) {k : Nat} (hk : k < g.pats.length) (h3 : vL letters (g.pats.drop k) = vL letters g.pats) (h4 : patW (g.pats.getD k []) letters ≠ 0) : diaE g letters = patW (g.pats.getD k []) letters := by
 have e := patsE_bad hk h4
 rw [h3] at e
 unfold diaE; rw [if_neg h, if_neg h2, if_neg (by rw [e]; exact h4), e]
theorem diaE_cho {g : DiaV} {letters : Int} (h : ¬ (letters < 1 ∨ 6 < letters)) (h2 : ¬ (300 < g.pats.length ∨ 20000 < g.chos.length)) (h3 : vL letters g.pats = 0) : diaE g letters = chosE g.pats.length g.chos g.root := by
 unfold diaE; rw [if_neg h, if_neg h2, if_pos h3]
def decF (cs : List ChoV) (m : Nat → Bool) : Nat → Int → Bool
 | 0, r => decide (r = 1)
 | f + 1, r => if r < 2 then decide (r = 1) else decF cs m f (if m (cs.getD (r.toNat - 2) default).p.toNat then (cs.getD (r.toNat - 2) default).y else (cs.getD (r.toNat - 2) default).n)
def decG (cs : List ChoV) (m : Nat → Bool) (r : Int) : Bool := decF cs m r.toNat r
theorem pT {np : Nat} {cs : List ChoV} {i : Nat} (h : choB np cs i = true) : 0 ≤ (cs.getD i default).p ∧ (cs.getD i default).p < np ∧ 0 ≤ (cs.getD i default).y ∧ (cs.getD i default).y ≤ 1 + (i : Int) ∧ 0 ≤ (cs.getD i default).n ∧ (cs.getD i default).n ≤ 1 + (i : Int) := by
 simp only [choB, refB, Bool.and_eq_true, decide_eq_true_eq] at h
 omega
theorem iE {np : Nat} {cs : List ChoV} {m : Nat → Bool} (h : wF np cs cs.length) : ∀ (f : Nat) (r : Int) (e : Nat), r.toNat ≤ f → r ≤ 1 + (cs.length : Int) → decF cs m (f + e) r = decF cs m f r
 | 0, r, e, hf, _ => by
  cases e with
  | zero => rfl
  | succ e => rw [Nat.zero_add, decF, decF, if_pos (by omega)]
 | f + 1, r, e, hf, hr => by
  rw [show f + 1 + e = (f + e) + 1 by omega, decF, decF]
  split
  ·rfl
  ·rename_i h2
   have hi : r.toNat - 2 < cs.length := by omega
   have hc := pT (h _ hi)
   split
   ·exact iE h f _ e (by omega) (by omega)
   ·exact iE h f _ e (by omega) (by omega)
theorem decG_low (cs : List ChoV) (m : Nat → Bool) {r : Int} (h : r < 2) : decG cs m r = decide (r = 1) := by
 unfold decG
 cases r.toNat with
 | zero => rfl
 | succ f => rw [decF, if_pos h]
theorem iD {np : Nat} {cs : List ChoV} {m : Nat → Bool} (h : wF np cs cs.length) {r : Int} (h2 : 2 ≤ r) (hr : r ≤ 1 + (cs.length : Int)) : decG cs m r = decG cs m (if m (cs.getD (r.toNat - 2) default).p.toNat then (cs.getD (r.toNat - 2) default).y else (cs.getD (r.toNat - 2) default).n) := by
 have hc := pT (h (r.toNat - 2) (by omega))
 have hx : ∀ x : Int, x.toNat ≤ r.toNat - 1 → x ≤ 1 + (cs.length : Int) → decF cs m (r.toNat - 1) x = decG cs m x := fun x h1 h3 => by
  have := iE (m := m) h x.toNat x (r.toNat - 1 - x.toNat) (Nat.le_refl _) h3
  rw [show x.toNat + (r.toNat - 1 - x.toNat) = r.toNat - 1 by omega] at this
  exact this
 have e : decG cs m r = decF cs m (r.toNat - 1) (if m (cs.getD (r.toNat - 2) default).p.toNat then (cs.getD (r.toNat - 2) default).y else (cs.getD (r.toNat - 2) default).n) := by
  have hf : r.toNat = (r.toNat - 1) + 1 := by omega
  show decF cs m r.toNat r = _
  conv => lhs; rw [hf]
  rw [decF, if_neg (by omega)]
 rw [e]
 refine hx _ ?_ ?_ <;> split <;> omega
end Go.Proofs.Ytjfdomfendbhfaa
