/- Part 33 of the proof: SigPlain. -/
import Derived.Test.YtgbfaggnnfoamaaZg32
set_option linter.unusedVariables false
set_option linter.unusedSimpArgs false
namespace Go.Proofs.Ytgbfaggnnfoamaa
def tO (d : DfaV) (p : List Nat) (q x : Nat) : List Nat := (p.getD q 0 :: (List.range x).map fun a => p.getD (nx d q a) 0) ++ List.replicate (6 - x) 0
theorem uU {d : DfaV} {p : List Nat} {q x : Nat} (h : x ≤ 6) : (tO d p q x).length = 7 := by simp [tO]; omega
theorem sigTo_set {d : DfaV} {p : List Nat} {q x : Nat} (h : x < 6) : (tO d p q x).set (1 + x) (p.getD (nx d q x) 0) = tO d p q (x + 1) := by
 unfold tO
 rw [List.set_append_right _ _ (by simp; omega), List.range_succ, List.map_append, show 6 - x = (6 - (x + 1)) + 1 by omega, List.replicate_succ]
 simp [Nat.add_comm]
theorem sigTo_lt {d : DfaV} {p : List Nat} {q x N : Nat} (h : ∀ c ∈ p, c < N) (hN : 0 < N) : ∀ y ∈ tO d p q x, y < N := by
 intro y hy
 rcases List.mem_append.1 hy with hy | hy
 ·rcases List.mem_cons.1 hy with rfl | hy
  ·exact rA h hN
  ·obtain ⟨a, _, rfl⟩ := List.mem_map.1 hy
   exact rA h hN
 ·rw [List.mem_replicate] at hy; omega
theorem sigTo_iff {d : DfaV} {p : List Nat} {q q' k : Nat} : tO d p q k = tO d p q' k ↔ p.getD q 0 = p.getD q' 0 ∧ ∀ a, a < k → p.getD (nx d q a) 0 = p.getD (nx d q' a) 0 := by
 unfold tO
 constructor
 ·intro h
  have h := List.append_cancel_right h
  rw [List.cons.injEq, List.map_inj_left] at h
  exact ⟨h.1, fun a ha => h.2 a (List.mem_range.2 ha)⟩
 ·rintro ⟨h1, h2⟩
  rw [h1, List.map_congr_left (fun a ha => h2 a (List.mem_range.1 ha))]
def sigL (d : DfaV) (k : Nat) (p : List Nat) : List (List Nat) := (List.range p.length).map fun q => tO d p q k
theorem tZ (d : DfaV) (k : Nat) (p : List Nat) : (sigL d k p).length = p.length := by simp [sigL]
theorem pS {d : DfaV} {k : Nat} {p : List Nat} {q : Nat} (h : q < p.length) : (sigL d k p)[q]'(by rw [tZ]; exact h) = tO d p q k := by simp [sigL]
theorem sig_refTo {d : DfaV} {n k : Nat} (hd : VD d n k) {p : List Nat} (hp : p.length = n) (hn : Norm p) : numb (sigL d k p) = vJ d p k := by
 have hlt : ∀ c ∈ p, c < n := by have := qP hn; rwa [hp] at this
 have hl := tZ d k p
 refine oA (qO _) (sV hn k) ⟨by rw [zV, hl, yD], fun i j hi hj => ?_⟩
 rw [zV, hl] at hi hj
 rw [uE (by omega) (by omega), pS hi, pS hj, sigTo_iff, vD hd hp hlt (by omega) (by omega) k (Nat.le_refl _)]
theorem numb_stepG {α : Type} [DecidableEq α] {l : List α} {k : Nat} (hk : k < l.length) : (numb l).getD k 0 = if l[k] ∈ zP (l.take k) then (zP (l.take k)).idxOf l[k] else (zP (l.take k)).length := by
 rw [zG (by rw [zV]; exact hk), uD hk, ← numb_take hk, List.take_succ_eq_append_getElem hk, vI]
 by_cases h : l[k] ∈ zP (l.take k)
 ·rw [wZ h, if_pos h]
 ·rw [xI h, if_neg h, List.idxOf_append, if_neg h]; simp
theorem qS {α : Type} [DecidableEq α] {l : List α} {k : Nat} (hk : k < l.length) : zP (l.take (k + 1)) = yE (zP (l.take k)) l[k] := by
 rw [List.take_succ_eq_append_getElem hk, vI]
theorem cls_numb {α : Type} [DecidableEq α] (l : List α) : cls (numb l) = (zP l).length := by
 unfold cls numb
 rw [firsts_map_inj _ _ (fun x hx y _ h => nC (yL.2 hx) h), List.length_map]
def yX (d : DfaV) (q : Nat) : List Nat := (List.range q).map fun i => if d.final.getD i false = d.final.getD 0 false then 0 else 1
def fstC (d : DfaV) (q : Nat) : Nat := if (yX d q).all (· == 0) then 1 else 2
def fstF (d : DfaV) (n q : Nat) : List Nat := yX d q ++ List.replicate (n - q) 0
theorem sD {d : DfaV} {n q : Nat} (h : q ≤ n) : (fstF d n q).length = n := by simp [fstF, yX]; omega
theorem fstF_same {d : DfaV} {n q : Nat} (h : q < n) (e : d.final.getD q false = d.final.getD 0 false) : fstF d n (q + 1) = fstF d n q ∧ fstC d (q + 1) = fstC d q := by
 have h1 : yX d (q + 1) = yX d q ++ [0] := by
  simp only [yX, List.range_succ, List.map_append, List.map_cons, List.map_nil, if_pos e]
 constructor
 ·unfold fstF
  rw [h1, show n - q = (n - (q + 1)) + 1 by omega, List.replicate_succ, List.append_assoc]
  rfl
 ·unfold fstC
  rw [h1, List.all_append]; simp
theorem fstF_diff {d : DfaV} {n q : Nat} (h : q < n) (e : d.final.getD q false ≠ d.final.getD 0 false) : fstF d n (q + 1) = (fstF d n q).set q 1 ∧ fstC d (q + 1) = 2 := by
 have h1 : yX d (q + 1) = yX d q ++ [1] := by
  simp only [yX, List.range_succ, List.map_append, List.map_cons, List.map_nil, if_neg e]
 have hl : (yX d q).length = q := by simp [yX]
 constructor
 ·unfold fstF
  rw [h1, List.set_append_right _ _ (by omega), hl, Nat.sub_self, show n - q = (n - (q + 1)) + 1 by omega, List.replicate_succ, List.set_cons_zero, List.append_assoc]
  rfl
 ·unfold fstC
  rw [h1, List.all_append]; simp
theorem fst_part0 {d : DfaV} {n k : Nat} (hd : VD d n k) : yX d n = rP d ∧ fstC d n = cls (rP d) := by
 have hl : (yX d n).length = n := by simp [yX]
 have hg : ∀ i, i < n → (yX d n).getD i 0 = if d.final.getD i false = d.final.getD 0 false then 0 else 1 := fun i hi => by
  rw [zG (by omega)]; simp [yX]
 have hker : ∀ i j, i < n → j < n → ((yX d n).getD i 0 = (yX d n).getD j 0 ↔ (rP d).getD i 0 = (rP d).getD j 0) := fun i j hi hj => by
  rw [hg i hi, hg j hj, qF hd hi hj]
  cases d.final.getD i false <;> cases d.final.getD j false <;> cases d.final.getD 0 false <;> simp
 have hp0 := rF d
 have hn1 := hd.n1
 have hnorm : Norm (yX d n) := by
  -- the first one is 0; what differs from it is 1
  unfold Norm
  have h0 : (yX d n).getD 0 0 = 0 := by rw [hg 0 (by omega), if_pos rfl]
  refine List.ext_getElem (zV _) fun i h1 h2 => ?_
  have hi : i < n := by omega
  rw [uD h2]
  have key : ∀ m, 0 < m → m ≤ n → zP ((yX d n).take m) = if (∃ j, j < m ∧ (yX d n).getD j 0 = 1) then [0, 1] else [0] := by
   intro m hm hmn
   induction m with
   | zero => omega
   | succ m ih =>
    have hm' : m < (yX d n).length := by omega
    rw [qS hm', ← zG (d := 0) hm']
    have h01 : (yX d n).getD m 0 = 0 ∨ (yX d n).getD m 0 = 1 := by rw [hg m (by omega)]; split <;> simp
    by_cases hm0 : m = 0
    ·subst hm0
     rw [h0]
     have : ¬ ∃ j, j < 0 + 1 ∧ (yX d n).getD j 0 = 1 := by
      rintro ⟨j, hj, e⟩
      have : j = 0 := by omega
      subst this; omega
     rw [if_neg this]; rfl
    ·rw [ih (by omega) (by omega)]
     by_cases hex : ∃ j, j < m ∧ (yX d n).getD j 0 = 1
     ·have hex2 : ∃ j, j < m + 1 ∧ (yX d n).getD j 0 = 1 := hex.imp fun j h => ⟨by omega, h.2⟩
      rw [if_pos hex, if_pos hex2]
      rcases h01 with e | e <;> rw [e] <;> rfl
     ·rw [if_neg hex]
      rcases h01 with e | e
      ·have hex2 : ¬ ∃ j, j < m + 1 ∧ (yX d n).getD j 0 = 1 := by
        rintro ⟨j, hj, e2⟩
        rcases Nat.lt_succ_iff_lt_or_eq.1 hj with hj | rfl
        ·exact hex ⟨j, hj, e2⟩
        ·omega
       rw [if_neg hex2, e]; rfl
      ·rw [if_pos ⟨m, by omega, e⟩, e]; rfl
  have hk := key n (by omega) (Nat.le_refl _)
  rw [show (yX d n).take n = yX d n by rw [List.take_of_length_le (by omega)]] at hk
  rw [hk]
  have h01 : (yX d n).getD i 0 = 0 ∨ (yX d n).getD i 0 = 1 := by rw [hg i hi]; split <;> simp
  rw [zG h2] at h01
  rcases h01 with e | e
  ·rw [e]; split <;> rfl
  ·rw [e, if_pos ⟨i, hi, by rw [zG h2, e]⟩]; rfl
 have heq : yX d n = rP d := oA hnorm (pC d) ⟨by rw [hl, hp0, hd.hn], fun i j hi hj => hker i j (by omega) (by omega)⟩
 refine ⟨heq, ?_⟩
 rw [← heq]
 unfold fstC
 by_cases ha : (yX d n).all (· == 0) = true
 ·rw [if_pos ha]
  have : yX d n = List.replicate n 0 := by
   refine List.eq_replicate_iff.2 ⟨hl, fun x hx => ?_⟩
   simpa using List.all_eq_true.1 ha x hx
  rw [this]
  have h1 : (zP (List.replicate n 0)) ⊆ [0] := fun x hx => by
   have := yL.1 hx
   rw [List.mem_replicate] at this
   simp [this.2]
  have h2 := (wM (List.replicate n 0)).length_le_of_subset h1
  have h3 := nR (p := List.replicate n 0) (by simp; omega)
  unfold cls at h3 ⊢
  simp at h2
  omega
 ·rw [if_neg ha]
  have h1 : zP (yX d n) ⊆ [0, 1] := fun x hx => by
   obtain ⟨i, _, rfl⟩ := List.mem_map.1 (yL.1 hx)
   split <;> simp
  have h2 := (wM (yX d n)).length_le_of_subset h1
  have hn1 : ∃ x ∈ yX d n, x ≠ 0 := by
   apply Classical.byContradiction
   intro hno
   exact ha (List.all_eq_true.2 fun x hx => by
    have : x = 0 := Classical.byContradiction fun h => hno ⟨x, hx, h⟩
    simp [this])
  obtain ⟨x, hx, hx0⟩ := hn1
  have hx1 : x = 1 := by
   obtain ⟨i, _, rfl⟩ := List.mem_map.1 hx
   split at hx0
   ·omega
   ·rename_i h; rw [if_neg h]
  have h0m : 0 ∈ yX d n := by
   rw [yX, List.mem_map]
   exact ⟨0, List.mem_range.2 (by omega), if_pos rfl⟩
  have h3 : [0, 1] ⊆ zP (yX d n) := fun y hy => by
   simp only [List.mem_cons, List.not_mem_nil, or_false] at hy
   rcases hy with rfl | rfl
   ·exact yL.2 h0m
   ·exact yL.2 (hx1 ▸ hx)
  have h4 := (show [0, 1].Nodup by decide).length_le_of_subset h3
  unfold cls
  simp at h2 h4
  omega
theorem clsIt_sig {d : DfaV} {n k : Nat} (hd : VD d n k) (m : Nat) : numb (sigL d k (zS d k m)) = zS d k (m + 1) := sig_refTo hd (by rw [zX, hd.hn]) (xP d k m)
theorem clsIt_stop {d : DfaV} {n k : Nat} (hd : VD d n k) {m : Nat} (hm : m ≤ n) (h : cls (zS d k (m + 1)) = cls (zS d k m)) : zS d k (m + 1) = zU d k := by
 have e : vJ d (zS d k m) k = zS d k m := Classical.byContradiction fun hne => by
  have := sA hd (by rw [zX, hd.hn]) (xP d k m) hne
  rw [zS] at h
  omega
 rw [tV (by rw [hd.hn]; exact hm) e, zS, e]
theorem clsIt_more {d : DfaV} {n k : Nat} (hd : VD d n k) {m : Nat} (h : cls (zS d k (m + 1)) ≠ cls (zS d k m)) : cls (zS d k m) < cls (zS d k (m + 1)) := by
 have e : vJ d (zS d k m) k ≠ zS d k m := fun e => h (by rw [zS, e])
 exact sA hd (by rw [zX, hd.hn]) (xP d k m) e
theorem cls_le_n {d : DfaV} {n k : Nat} (hd : VD d n k) (m : Nat) : cls (zS d k m) ≤ n := by
 have := pJ (zS d k m)
 rwa [zX, hd.hn] at this
end Go.Proofs.Ytgbfaggnnfoamaa
