/- Part 3 of the proof: Numb, PVal. -/
import Derived.Test.YtjfdomfendbhfaaQa2
set_option linter.unusedVariables false
set_option linter.unusedSimpArgs false
namespace Go.Proofs.Ytjfdomfendbhfaa
def yV {α : Type} [DecidableEq α] (acc : List α) (x : α) : List α := if x ∈ acc then acc else acc ++ [x]
def zY {α : Type} [DecidableEq α] (l : List α) : List α := l.foldl yV []
section
variable {α : Type} [DecidableEq α]
theorem uP {acc : List α} {x : α} (h : x ∈ acc) : yV acc x = acc := if_pos h
theorem wI {acc : List α} {x : α} (h : x ∉ acc) : yV acc x = acc ++ [x] := if_neg h
theorem qC {acc : List α} {x y : α} : y ∈ yV acc x ↔ y ∈ acc ∨ y = x := by
 unfold yV
 split
 ·rename_i h
  exact ⟨.inl, fun h' => by rcases h' with h' | rfl <;> assumption⟩
 ·simp
theorem uW (l : List α) (x : α) : zY (l ++ [x]) = yV (zY l) x := by simp [zY, List.foldl_append]
theorem mem_foldl_addNew (l : List α) : ∀ (acc : List α) (y : α), y ∈ l.foldl yV acc ↔ y ∈ acc ∨ y ∈ l := by
 induction l with
 | nil => intro acc y; simp
 | cons a l ih => intro acc y; rw [List.foldl_cons, ih, qC, List.mem_cons]; exact or_assoc
theorem xD {l : List α} {y : α} : y ∈ zY l ↔ y ∈ l := by rw [zY, mem_foldl_addNew]; simp
theorem nJ {acc : List α} {x : α} (h : acc.Nodup) : (yV acc x).Nodup := by
 unfold yV
 split
 ·exact h
 ·rename_i hx
  rw [List.nodup_append]
  exact ⟨h, by simp, fun a ha b hb => by rw [List.mem_singleton] at hb; subst hb; rintro rfl; exact hx ha⟩
theorem foldl_addNew_nodup (l : List α) : ∀ {acc : List α}, acc.Nodup → (l.foldl yV acc).Nodup := by
 induction l with
 | nil => intro acc h; exact h
 | cons a l ih => intro acc h; exact ih (nJ h)
theorem vY (l : List α) : (zY l).Nodup := foldl_addNew_nodup l (by simp)
theorem sY (acc : List α) (x : α) : acc <+: yV acc x := by
 unfold yV; split
 ·exact List.prefix_refl _
 ·exact List.prefix_append _ _
theorem foldl_addNew_prefix (l : List α) : ∀ (acc : List α), acc <+: l.foldl yV acc := by
 induction l with
 | nil => intro acc; exact List.prefix_refl _
 | cons a l ih => intro acc; exact (sY acc a).trans (ih _)
theorem tN (l : List α) (k : Nat) : zY (l.take k) <+: zY l := by
 conv => rhs; rw [← List.take_append_drop k l]
 rw [zY, zY, List.foldl_append]
 exact foldl_addNew_prefix _ _
theorem uC (l : List α) : (zY l).length ≤ l.length := by
 have key : ∀ (l acc : List α), (l.foldl yV acc).length ≤ acc.length + l.length := by
  intro l
  induction l with
  | nil => intro acc; simp
  | cons a l ih =>
   intro acc
   rw [List.foldl_cons]
   have h1 := ih (yV acc a)
   have h2 : (yV acc a).length ≤ acc.length + 1 := by unfold yV; split <;> simp
   rw [List.length_cons]; omega
 simpa [zY] using key l []
theorem nF {l m : List α} {x : α} (h : l <+: m) (hx : x ∈ l) : m.idxOf x = l.idxOf x := by
 obtain ⟨r, rfl⟩ := h
 rw [List.idxOf_append, if_pos hx]
theorem idxOf_inj {l : List α} {x y : α} (hx : x ∈ l) (h : l.idxOf x = l.idxOf y) : x = y := by
 have h1 := List.idxOf_lt_length_of_mem hx
 have e1 := List.getElem_idxOf h1
 have e2 := List.getElem_idxOf (show l.idxOf y < l.length by omega)
 rw [← e1, ← e2]; simp only [h]
def numb (l : List α) : List Nat := l.map fun x => (zY l).idxOf x
theorem yI (l : List α) : (numb l).length = l.length := by simp [numb]
theorem sP {l : List α} {i : Nat} (h : i < l.length) : (numb l)[i]'(by rw [yI]; exact h) = (zY l).idxOf l[i] := by simp [numb]
theorem numb_lt {l : List α} : ∀ c ∈ numb l, c < (zY l).length := by
 intro c hc
 obtain ⟨x, hx, rfl⟩ := List.mem_map.1 hc
 exact List.idxOf_lt_length_of_mem (xD.2 hx)
theorem sQ {l : List α} {i j : Nat} (hi : i < l.length) (hj : j < l.length) : (numb l).getD i 0 = (numb l).getD j 0 ↔ l[i] = l[j] := by
 simp only [List.getD, List.getElem?_eq_getElem (show i < (numb l).length by rw [yI]; exact hi), List.getElem?_eq_getElem (show j < (numb l).length by rw [yI]; exact hj), Option.getD_some, sP hi, sP hj]
 exact ⟨fun h => idxOf_inj (xD.2 (List.getElem_mem hi)) h, fun h => by rw [h]⟩
theorem numb_take {l : List α} {k : Nat} (hk : k < l.length) : (zY (l.take (k + 1))).idxOf l[k] = (zY l).idxOf l[k] := by
 refine (nF (tN l (k + 1)) (xD.2 ?_)).symm
 rw [List.take_succ_eq_append_getElem hk]; exact List.mem_append_right _ (List.mem_singleton_self _)
end
def SameKer (p q : List Nat) : Prop := p.length = q.length ∧ ∀ i j, i < p.length → j < p.length → (p.getD i 0 = p.getD j 0 ↔ q.getD i 0 = q.getD j 0)
def Norm (p : List Nat) : Prop := numb p = p
theorem zF {α : Type} {l : List α} {i : Nat} {d : α} (h : i < l.length) : l.getD i d = l[i] := by simp [List.getD, List.getElem?_eq_getElem h]
theorem firsts_map_inj {α β : Type} [DecidableEq α] [DecidableEq β] (f : α → β) (l : List α) (h : ∀ x ∈ l, ∀ y ∈ l, f x = f y → x = y) : zY (l.map f) = (zY l).map f := by
 have key : ∀ (m acc : List α), (∀ x ∈ acc ++ m, ∀ y ∈ acc ++ m, f x = f y → x = y) → (m.map f).foldl yV (acc.map f) = (m.foldl yV acc).map f := by
  intro m
  induction m with
  | nil => intro acc _; rfl
  | cons a m ih =>
   intro acc hh
   rw [List.map_cons, List.foldl_cons, List.foldl_cons]
   have e : yV (acc.map f) (f a) = (yV acc a).map f := by
    unfold yV
    by_cases ha : a ∈ acc
    ·rw [if_pos ha, if_pos (List.mem_map_of_mem ha)]
    ·rw [if_neg ha, if_neg]
     ·simp
     ·intro hm
      obtain ⟨b, hb, e⟩ := List.mem_map.1 hm
      have := hh b (by simp [hb]) a (by simp) e
      subst this
      exact ha hb
   rw [e]
   refine ih _ fun x hx y hy => hh x ?_ y ?_
   ·rw [List.mem_append, qC] at hx; simp; rcases hx with (h | h) | h <;> simp [h]
   ·rw [List.mem_append, qC] at hy; simp; rcases hy with (h | h) | h <;> simp [h]
 have := key l [] (by simpa using h)
 simpa [zY] using this
theorem idxOf_map_inj {α β : Type} [DecidableEq α] [DecidableEq β] (f : α → β) (l : List α) (x : α) (hx : x ∈ l) (h : ∀ y ∈ l, f y = f x → y = x) : (l.map f).idxOf (f x) = l.idxOf x := by
 induction l with
 | nil => simp at hx
 | cons a l ih =>
  rw [List.map_cons, List.idxOf_cons, List.idxOf_cons]
  by_cases e : a = x
  ·subst e; simp
  ·have : f a ≠ f x := fun h' => e (h a (by simp) h')
   simp only [beq_eq_false_iff_ne.2 this, beq_eq_false_iff_ne.2 e, cond_false]
   rw [ih (by simpa [Ne.symm e] using hx) (fun y hy => h y (by simp [hy]))]
theorem jE {α β : Type} [DecidableEq α] [DecidableEq β] : ∀ (l : List α) (m : List β) (he : l.length = m.length), (∀ i j (hi : i < l.length) (hj : j < l.length), (l[i] = l[j] ↔ m[i]'(by omega) = m[j]'(by omega))) → numb l = numb m := by
 intro l m he h
 -- positions of first occurrences
 have key : ∀ (k : Nat) (hk : k ≤ l.length), ∃ ps : List (Fin l.length), zY (l.take k) = ps.map (fun i => l[i]) ∧ zY (m.take k) = ps.map (fun i => m[i.1]'(by omega)) := by
  intro k
  induction k with
  | zero => intro _; exact ⟨[], by simp [zY], by simp [zY]⟩
  | succ k ih =>
   intro hk
   obtain ⟨ps, h1, h2⟩ := ih (by omega)
   have hkl : k < l.length := by omega
   rw [List.take_succ_eq_append_getElem hkl, List.take_succ_eq_append_getElem (show k < m.length by omega), uW, uW, h1, h2]
   have hmem : (l[k] ∈ ps.map (fun i => l[i])) ↔ (m[k]'(by omega) ∈ ps.map (fun i => m[i.1]'(by omega))) := by
    simp only [List.mem_map]
    constructor
    ·rintro ⟨i, hi, e⟩; exact ⟨i, hi, (h i.1 k i.2 hkl).1 e⟩
    ·rintro ⟨i, hi, e⟩; exact ⟨i, hi, (h i.1 k i.2 hkl).2 e⟩
   by_cases hm : l[k] ∈ ps.map (fun i => l[i])
   ·exact ⟨ps, uP hm, uP (hmem.1 hm)⟩
   ·refine ⟨ps ++ [⟨k, hkl⟩], ?_, ?_⟩
    ·rw [wI hm]; simp
    ·rw [wI (fun h' => hm (hmem.2 h'))]; simp
 obtain ⟨ps, h1, h2⟩ := key l.length (Nat.le_refl _)
 rw [List.take_length] at h1
 rw [show m.take l.length = m from List.take_of_length_le (by omega)] at h2
 refine List.ext_getElem (by simp [numb, he]) fun i hi _ => ?_
 rw [yI] at hi
 rw [sP hi, sP (by omega), h1, h2]
 have aux : ∀ (qs : List (Fin l.length)), (qs.map (fun i => l[i])).idxOf l[i] = (qs.map (fun i => m[i.1]'(by omega))).idxOf (m[i]'(by omega)) := by
  intro qs
  induction qs with
  | nil => simp
  | cons a qs ih =>
   rw [List.map_cons, List.map_cons, List.idxOf_cons, List.idxOf_cons, ih]
   have := h a.1 i a.2 hi
   by_cases e : l[a] = l[i]
   ·have e' := this.1 e
    simp only [beq_iff_eq.2 e, beq_iff_eq.2 e']
   ·have e' : ¬ (m[a.1]'(by omega) = m[i]'(by omega)) := fun h' => e (this.2 h')
    simp only [beq_eq_false_iff_ne.2 e, beq_eq_false_iff_ne.2 e']
 exact aux ps
theorem lG {α : Type} [DecidableEq α] (l : List α) : Norm (numb l) := by
 refine jE _ _ (yI l) fun i j hi hj => ?_
 rw [yI] at hi hj
 have := sQ (l := l) hi hj
 rw [zF (by rw [yI]; exact hi), zF (by rw [yI]; exact hj)] at this
 exact this
theorem norm_ext {p q : List Nat} (hp : Norm p) (hq : Norm q) (h : SameKer p q) : p = q := by
 rw [← hp, ← hq]
 refine jE _ _ h.1 fun i j hi hj => ?_
 have := h.2 i j hi hj
 rw [zF hi, zF hj, zF (by rw [← h.1]; exact hi), zF (by rw [← h.1]; exact hj)] at this
 exact this
end Go.Proofs.Ytjfdomfendbhfaa
namespace Go.Proofs.Ytjfdomfendbhfaa
open Go.RowKit
def txtV (bs : List ByteArray) : List Value := bs.map .string
theorem zU (bs : List ByteArray) : (txtV bs).length = bs.length := by simp [txtV]
theorem wV {w : World} {b off : Nat} {bs : List ByteArray} (h : wO w b off (txtV bs)) (i : Nat) (hi : i < bs.length) : w.cell? ⟨b, off + i, none⟩ = some (.string (bs.getD i ⟨#[]⟩)) := by
 rw [h.map i hi, zF hi]
def totW (bs : List ByteArray) : Int := bs.foldl (fun a b => wrap64 (a + (b.size : Int))) 0
theorem mI (bs : List ByteArray) (k : Nat) (hk : k < bs.length) : totW (bs.take (k + 1)) = wrap64 (totW (bs.take k) + ((bs.getD k ⟨#[]⟩).size : Int)) := by
 rw [List.take_succ_eq_append_getElem hk, totW, List.foldl_append, zF hk]; rfl
theorem totW_eq (bs : List ByteArray) (h : ∀ i (hi : i < bs.length), bs[i].size ≤ 4294967296) (hl : bs.length ≤ 4096) : ∀ k, k ≤ bs.length → totW (bs.take k) = (sJ (bs.take k) : Int) ∧ sJ (bs.take k) ≤ k * 4294967296
 | 0, _ => ⟨rfl, by simp [sJ]⟩
 | k + 1, hk => by
  obtain ⟨h1, h2⟩ := totW_eq bs h hl k (by omega)
  have h3 := h k (by omega)
  rw [mI bs k (by omega), h1, kR bs k (by omega), zF (show k < bs.length by omega)]
  refine ⟨?_, by omega⟩
  rw [← Int.natCast_add]
  exact IntWalk.wrap64_in _ (by omega)
def patW (bs : List ByteArray) (letters : Int) : Int :=
 if letters < 1 ∨ 6 < letters then 1 else if 8 < bs.length then 3 else if 64 < totW bs then 3
 else if bs.length = 0 then 22 else if xL bs.length letters 0 bs then 0 else 22
theorem ok_sizes {bs : List ByteArray} {letters : Int} : ∀ {n i : Nat}, xL n letters i bs = true → ∀ j (hj : j < bs.length), bs[j].size ≤ 2048 := by
 induction bs with
 | nil => intro n i _ j hj; simp at hj
 | cons u us ih =>
  intro n i h j hj
  rw [xL, Bool.and_eq_true] at h
  cases j with
  | zero =>
   have h1 := h.1
   simp only [wK, zP, Bool.and_eq_true, decide_eq_true_eq] at h1
   exact h1.1.1.2.2
  | succ j => simpa using ih h.2 j (by simpa using hj)
theorem patW_facts {bs : List ByteArray} {letters : Int} (h : patW bs letters = 0) : ¬ (letters < 1 ∨ 6 < letters) ∧ ¬ 8 < bs.length ∧ ¬ 64 < totW bs ∧ ¬ bs.length = 0 ∧ xL bs.length letters 0 bs = true := by
 unfold patW at h
 split at h
 ·omega
 split at h
 ·omega
 split at h
 ·omega
 split at h
 ·omega
 split at h
 ·exact ⟨by assumption, by assumption, by assumption, by assumption, by assumption⟩
 ·omega
theorem mW {bs : List ByteArray} {letters : Int} (h1 : ¬ (letters < 1 ∨ 6 < letters)) (h2 : ¬ 8 < bs.length) (h3 : ¬ 64 < totW bs) (h4 : ¬ bs.length = 0) : patW bs letters = if xL bs.length letters 0 bs then 0 else 22 := by
 unfold patW
 rw [if_neg h1, if_neg h2, if_neg h3, if_neg h4]
theorem tot_same {bs : List ByteArray} {letters : Int} (h2 : ¬ 8 < bs.length) (h3 : xL bs.length letters 0 bs = true) : totW bs = (sJ bs : Int) := by
 have hs := ok_sizes h3
 have ht := (totW_eq bs (fun i hi => by have := hs i hi; omega) (by omega) bs.length (Nat.le_refl _)).1
 rwa [List.take_length] at ht
theorem xV {bs : List ByteArray} {letters : Int} : patW bs letters = 0 ↔ yB bs letters = 0 := by
 constructor
 ·intro h
  obtain ⟨h1, h2, h3, h4, h5⟩ := patW_facts h
  rw [qL (by omega) (by omega) h2 (by have := tot_same h2 h5; omega) h4, if_pos h5]
 ·intro h
  obtain ⟨h1, h2, h3, h4, h5, h6⟩ := xJ h
  rw [mW (by omega) (by omega) (by have := tot_same (by omega) h6; omega) (by omega), if_pos h6]
set_option maxRecDepth 100000 in
set_option maxHeartbeats 400000 in
theorem pQ (B : Nat) (w : World) (v : Value) (bs : List ByteArray) (letters : Int) (h : Row B w v (txtV bs)) (hs : ∀ i (hi : i < bs.length), bs[i].size ≤ maxLen) :
    Calls Try.prog 36 #[.agg #[v], .int .i64 letters] w fun e w' => e = .returned (.int .i64 (patW bs letters)) ∧ w.grownBy w' none := by
  have hlm := h.len_le
  rw [zU] at hlm
  have hlm' : bs.length ≤ 9223372036854775807 := by unfold maxLen at hlm; omega
  have H := Kh h; have HS := Kh hs
  obtain ⟨a, cap, rfl⟩ := h.shape
  rw [zU] at H ⊢
  clear h hs hlm
  by_cases h1 : letters < 1
  · go_enter Try.func36, Try.ntmps36
    go_wp2
    go_ret
    exact ⟨zW (by simp [patW, h1]), World.grownBy_alloc _ _ _⟩
  by_cases h2 : 6 < letters
  · go_enter Try.func36, Try.ntmps36
    go_wp2
    go_ret
    exact ⟨zW (by simp [patW, h2]), World.grownBy_alloc _ _ _⟩
  by_cases h3 : 8 < bs.length
  · have h3' : (8 : Int) < bs.length := by omega
    go_enter Try.func36, Try.ntmps36
    go_wp2
    go_ret
    exact ⟨zW (by simp [patW, h1, h2, h3]), World.grownBy_alloc _ _ _⟩
  have h3' : ¬ (8 : Int) < bs.length := by omega
  go_enter Try.func36, Try.ntmps36
  go_wp2
  go_loopg [5, 7, 24] bs.length (fun gh t a7 i wr => w.alloc (.cells #[.slice a bs.length cap] 28) = wr ∧ ∃ k : Nat, gh + k = bs.length ∧ i = .int .i64 k ∧ t = .int .i64 (totW (bs.take k)))
  case atStart => exact ⟨rfl, 0, rfl, rfl, rfl⟩
  case round =>
    obtain ⟨hw, k, hgh, rfl, rfl⟩ := hrel
    have HGH := Kh hgh
    clear hgh
    by_cases hlt : k < bs.length
    · have hlt' : (k : Int) < bs.length := by omega
      obtain ⟨kb, off, kc, e, _, hk1, hk2, hkr⟩ := (H.out.kept (World.grownBy_alloc w (.cells #[.slice a bs.length cap] 28) none) (by simp)).some_ (by rw [zU]; omega)
      rw [hw] at hkr
      rw [zU] at e hk1
      simp only [Value.slice.injEq] at e
      obtain ⟨rfl, _, rfl⟩ := e
      have hc := wV hkr k hlt
      have HS2 := Kh (mI bs k hlt)
      obtain ⟨u, hu⟩ : ∃ u, u = bs.getD k ⟨#[]⟩ := ⟨_, rfl⟩
      have hus : u.size ≤ 9223372036854775807 := by
        rw [hu, zF hlt]; have := HS.out k hlt; unfold maxLen at this; omega
      rw [← hu] at hc HS2
      have HW := Kh hw
      clear hkr hu hw
      go_wp2
      go_roundg (bs.length - (k + 1))
      case measure => have := HGH.out; omega
      case rel => exact ⟨HW.out, k + 1, by have := HGH.out; omega, by go_num, by rw [HS2.out]⟩
    · have hkn : k = bs.length := by have := HGH.out; omega
      have HT : Hid (totW (bs.take k) = totW bs) := Kh (by rw [hkn, List.take_length])
      rw [HT.out]
      have hkn' : ¬ (k : Int) < bs.length := by omega
      have HG : Hid (w.grownBy wr none) := Kh (by rw [← hw]; exact World.grownBy_alloc _ _ _)
      have hb := heap_alloc_new w (.cells #[.slice a bs.length cap] 28)
      rw [hw] at hb
      have c0 : wr.cell? ⟨w.heap.size, 0, none⟩ = some (.slice a bs.length cap) := by simpa using zI hb 0 (by simp)
      have HR : Hid (Row B wr (.slice a bs.length cap) (txtV bs)) := Kh (H.out.kept HG.out (by simp))
      clear hkn hw hb HGH
      obtain ⟨tw, htw⟩ : ∃ tw, tw = totW bs := ⟨_, rfl⟩
      rw [← htw]
      have HTW := Kh htw
      clear htw
      by_cases h4 : 64 < tw
      · go_wp2
        go_ret
        exact ⟨zW (by rw [patW, if_neg (by omega), if_neg (by omega), if_pos (by rw [← HTW.out]; omega)]), HG.out⟩
      by_cases h5 : bs.length = 0
      · have h5' : ((bs.length : Int) == 0) = true := by simp [h5]
        have H5 := Kh h5; clear h5
        go_wp2
        go_ret
        exact ⟨zW (by rw [patW, if_neg (by omega), if_neg (by omega), if_neg (by rw [← HTW.out]; omega), if_pos H5.out]), HG.out⟩
      have h5' : ((bs.length : Int) == 0) = false := by rw [beq_eq_false_iff_ne]; omega
      go_wp2
      go_loopg [8, 9, 42] bs.length (fun gh a8 a9 i wq => wr = wq ∧ ∃ k : Nat, gh + k = bs.length ∧ i = .int .i64 k ∧ xL bs.length letters k (bs.drop k) = xL bs.length letters 0 bs)
      case atStart => exact ⟨rfl, 0, rfl, rfl, rfl⟩
      case round =>
        obtain ⟨rfl, j, hgh, rfl, hok⟩ := hrel
        have HGH := Kh hgh; have HOK := Kh hok
        clear hgh hok
        by_cases hj : j < bs.length
        · have hj' : (j : Int) < bs.length := by omega
          obtain ⟨kb, off, kc, e, _, hk1, hk2, hkr⟩ := HR.out.some_ (by rw [zU]; omega)
          rw [zU] at e hk1
          simp only [Value.slice.injEq] at e
          obtain ⟨rfl, _, rfl⟩ := e
          have hc := wV hkr j hj
          obtain ⟨u, hu⟩ : ∃ u, u = bs.getD j ⟨#[]⟩ := ⟨_, rfl⟩
          have hus : u.size ≤ maxLen := by rw [hu, zF hj]; exact HS.out j hj
          rw [← hu] at hc
          have HU : Hid (u = bs[j]) := Kh (by rw [hu, zF hj])
          clear hkr hu
          go_wp2_with (go_at_call 39; refine (sI u letters _ hus).mono ?_; rintro e w' ⟨rfl, rfl⟩)
          all_goals first
            | (go_ret
               exact ⟨zW (by rw [mW (by omega) (by omega) (by rw [← HTW.out]; omega) (by omega), jB hj (by rw [← HU.out]; first | exact lD (by assumption) (by assumption) (by assumption) | exact lE (by assumption)) HOK.out]; rfl), HG.out⟩)
            | (go_roundg (bs.length - (j + 1))
               case rel => exact ⟨rfl, j + 1, by have := HGH.out; omega, by go_num, lA hj (lC (by rw [← HU.out]; assumption) (by rw [← HU.out]; first | (left; omega) | (right; assumption))) HOK.out⟩
               case measure => have := HGH.out; omega)
        · have hj' : ¬ (j : Int) < bs.length := by omega
          have e : xL bs.length letters j (bs.drop j) = true := by rw [List.drop_eq_nil_of_le (by omega)]; rfl
          have HE := Kh e
          clear e
          go_wp2
          go_ret
          exact ⟨zW (by rw [mW (by omega) (by omega) (by rw [← HTW.out]; omega) (by omega), ← HOK.out, HE.out]; rfl), HG.out⟩
end Go.Proofs.Ytjfdomfendbhfaa
