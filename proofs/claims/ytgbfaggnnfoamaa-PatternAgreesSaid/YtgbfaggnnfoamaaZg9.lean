/- Part 9 of the proof: TRows, Many. -/
import Derived.Test.YtgbfaggnnfoamaaZg8
set_option linter.unusedVariables false
set_option linter.unusedSimpArgs false
namespace Go.Proofs.Ytgbfaggnnfoamaa
open Go.RowKit
def RowT (B : Nat) (e : TypeId) (w : World) (v : Value) (xs : List Value) : Prop :=
 (v = .slice none 0 0 ∧ xs = []) ∨ ∃ b off cap cur m, v = .slice (some ⟨b, off, none⟩) xs.length cap ∧ b < B ∧ xs.length ≤ cap ∧ cap ≤ maxLen ∧ w.heap[b]? = some (.cells cur e m) ∧ ∀ i (h : i < xs.length), cur[off + i]? = some xs[i]
theorem RowT.row {B : Nat} {e : TypeId} {w : World} {v : Value} {xs : List Value} (h : RowT B e w v xs) : Row B w v xs := by
 rcases h with h | ⟨b, off, cap, cur, m, h1, h2, h3, h4, h5, h6⟩
 ·exact .inl ⟨_, _, h⟩
 ·exact .inr ⟨b, off, cap, h1, h2, h3, h4, zJ h5, fun i hi => by rw [cell_of_row w b (off + i) _ _ _ h5]; exact h6 i hi⟩
theorem RowT.mono {B B' : Nat} {e : TypeId} {w : World} {v : Value} {xs : List Value} (h : RowT B e w v xs) (hB : B ≤ B') : RowT B' e w v xs := by
 rcases h with h | ⟨b, off, cap, cur, m, h1, h2, h3⟩
 ·exact .inl h
 ·exact .inr ⟨b, off, cap, cur, m, h1, by omega, h3⟩
def xA (w : World) (e : TypeId) (k : Nat) : Prop := ∃ cur e' m, w.heap[k]? = some (.cells cur e' m) ∧ e' ≠ e
theorem RowT.kept {B : Nat} {e : TypeId} {w w' : World} {v : Value} {xs : List Value} {row : Option Nat} (h : RowT B e w v xs) (hg : w.grownBy w' row) (hr : ∀ k, row = some k → B ≤ k ∨ xA w e k) : RowT B e w' v xs := by
 rcases h with h | ⟨b, off, cap, cur, m, h1, h2, h3, h4, h5, h6⟩
 ·exact .inl h
 ·refine .inr ⟨b, off, cap, cur, m, h1, h2, h3, h4, zA h5 hg (fun eq => ?_), h6⟩
  rcases hr b eq with hk | ⟨cur', e', m', hk, hne⟩
  ·omega
  ·rw [h5] at hk; simp at hk; exact hne hk.2.1.symm
theorem RowT.of_heap {B : Nat} {e : TypeId} {w w' : World} {v : Value} {xs : List Value} (h : RowT B e w v xs) (he : w'.heap = w.heap) : RowT B e w' v xs := by
 rcases h with h | ⟨b, off, cap, cur, m, h1, h2, h3, h4, h5, h6⟩
 ·exact .inl h
 ·exact .inr ⟨b, off, cap, cur, m, h1, h2, h3, h4, by rw [he]; exact h5, h6⟩
theorem RowT.of_owns {w : World} {base e : Nat} {v : Value} {n : Nat} {xs : List Value} (h : w.ownsRow base e 1 v n xs) : RowT w.heap.size e w v xs := by
 have hl : xs.length = n := by have := h.1; omega
 rcases h.2 with ⟨rfl, rfl⟩ | ⟨g, cap, cur, rfl, hb, hg, hnc, hcm, hcs, htake⟩
 ·exact .inl ⟨rfl, List.eq_nil_of_length_eq_zero hl⟩
 ·refine .inr ⟨g, 0, cap, cur, (0, 0), by rw [hl], zJ hg, by omega, hcm, hg, fun i hi => ?_⟩
  have := h.cellAt i (by omega)
  rw [cell_of_row w g i _ _ _ hg] at this
  rw [Nat.zero_add, this, List.getElem?_eq_getElem hi]
theorem yQ {w : World} {base e e' size : Nat} {v : Value} {n : Nat} {xs : List Value} (h : w.ownsRow base e size v n xs) (hne : e ≠ e') : ∀ k, v.ownBlock = some k → xA w e' k := by
 intro k hk
 rcases h.2 with ⟨rfl, _⟩ | ⟨g, cap, cur, rfl, _, hg, _⟩
 ·simp [Value.ownBlock] at hk
 ·simp [Value.ownBlock] at hk
  subst hk
  exact ⟨cur, e, (0, 0), hg, hne⟩
def wX {α : Type} (B : Nat) (e : TypeId) (f : α → List Value) (w : World) (svs : List Value) (ps : List α) : Prop :=
 svs.length = ps.length ∧ ∀ i (h : i < svs.length) (h' : i < ps.length), RowT B e w svs[i] (f ps[i])
section
variable {α : Type} {B : Nat} {e : TypeId} {f : α → List Value} {w : World} {svs : List Value} {ps : List α}
theorem wX.nil : wX B e f w [] [] := ⟨rfl, fun i h => by simp at h⟩
theorem wX.kept {w' : World} {row : Option Nat} (h : wX B e f w svs ps) (hg : w.grownBy w' row) (hr : ∀ k, row = some k → B ≤ k ∨ xA w e k) : wX B e f w' svs ps :=
 ⟨h.1, fun i h1 h2 => (h.2 i h1 h2).kept hg hr⟩
theorem wX.mono {B' : Nat} (h : wX B e f w svs ps) (hB : B ≤ B') : wX B' e f w svs ps := ⟨h.1, fun i h1 h2 => (h.2 i h1 h2).mono hB⟩
theorem wX.snoc {sv : Value} {p : α} (h : wX B e f w svs ps) (hs : RowT B e w sv (f p)) : wX B e f w (svs ++ [sv]) (ps ++ [p]) := by
 refine ⟨by simp [h.1], fun i h1 h2 => ?_⟩
 by_cases hi : i < svs.length
 ·rw [List.getElem_append_left hi, List.getElem_append_left (by rw [← h.1]; exact hi)]
  exact h.2 i hi _
 ·have : i = svs.length := by simp at h1; omega
  subst this
  rw [List.getElem_append_right (Nat.le_refl _), List.getElem_append_right (by rw [h.1]; exact Nat.le_refl _)]
  simpa [h.1] using hs
end
structure RowS where
 base : Nat
 e : TypeId
 v : Value
 n : Nat
 xs : List Value
 sz : Nat
structure GrownBut (w w' : World) (F : Nat → Prop) : Prop where
 os : w'.os = w.os
 tape : w'.tape = w.tape
 output : w'.output = w.output
 size : w.heap.size ≤ w'.heap.size
 block : ∀ k, k < w.heap.size → ¬ F k → w'.heap[k]? = w.heap[k]?
theorem GrownBut.refl (w : World) (F : Nat → Prop) : GrownBut w w F := ⟨rfl, rfl, rfl, Nat.le_refl _, fun _ _ _ => rfl⟩
theorem GrownBut.step {w w' w'' : World} {F : Nat → Prop} {row : Option Nat} (h : GrownBut w w' F) (hg : w'.grownBy w'' row) (hr : ∀ k, row = some k → F k ∨ w.heap.size ≤ k) : GrownBut w w'' F :=
 ⟨hg.os.trans h.os, hg.tape.trans h.tape, hg.output.trans h.output, Nat.le_trans h.size hg.size, fun k hk hf => by
  refine (hg.block k (Nat.lt_of_lt_of_le hk h.size) fun e => ?_).trans (h.block k hk hf)
  rcases hr k e.symm with h | h
  ·exact hf h
  ·omega⟩
theorem GrownBut.grown {w0 w w' : World} {F : Nat → Prop} {row : Option Nat} (h : GrownBut w w' F) (h0 : w0.grownBy w row) (hF : ∀ k, F k → row = some k ∨ w0.heap.size ≤ k) : w0.grownBy w' row :=
 ⟨h.os.trans h0.os, h.tape.trans h0.tape, h.output.trans h0.output, Nat.le_trans h0.size h.size, fun k hk hne => by
  refine (h.block k (Nat.lt_of_lt_of_le hk h0.size) fun hf => ?_).trans (h0.block k hk hne)
  rcases hF k hf with e | e
  ·exact hne e.symm
  ·omega⟩
theorem GrownBut.cell {w w' : World} {F : Nat → Prop} (h : GrownBut w w' F) {p : Addr} {u : Value} (hc : w.cell? p = some u) (hf : ¬ F p.block) : w'.cell? p = some u :=
 (World.cell?_of_block (h.block p.block (World.block_lt_of_cell? w p hc) hf)).trans hc
theorem GrownBut.heap {w w' : World} {F : Nat → Prop} (h : GrownBut w w' F) {p : Nat} {o : Obj} (hc : w.heap[p]? = some o) (hf : ¬ F p) : w'.heap[p]? = some o :=
 (h.block p (zJ hc) hf).trans hc
structure Many (w0 : World) (F : Nat → Prop) (W : World) (rs : List RowS) (ls : List (Nat × Obj)) (ps : List (Nat × TypeId × List Value)) : Prop where
 own : ∀ (j : Nat) (r : RowS), rs[j]? = some r → W.ownsRow r.base r.e r.sz r.v r.n r.xs
 mine : ∀ (j : Nat) (r : RowS), rs[j]? = some r → ∀ k, r.v.ownBlock = some k → F k ∨ w0.heap.size ≤ k
 apart : ∀ (i j : Nat) (r s : RowS), i ≠ j → rs[i]? = some r → rs[j]? = some s → ∀ k, r.v.ownBlock = some k → s.v.ownBlock ≠ some k
 lit : ∀ p ∈ ls, W.heap[p.1]? = some p.2 ∧ (∀ (j : Nat) (r : RowS), rs[j]? = some r → r.v.ownBlock ≠ some p.1) ∧ w0.heap.size ≤ p.1
 pre : ∀ p ∈ ps, Arr W p.1 p.2.1 p.2.2 ∧ ∀ (j : Nat) (r : RowS), rs[j]? = some r → r.v.ownBlock = some p.1 → p.2.2 <+: r.xs ∧ r.e = p.2.1 ∧ r.sz = 1
 but : GrownBut w0 W F
section
variable {w0 W : World} {F : Nat → Prop} {rs : List RowS} {ls : List (Nat × Obj)} {ps : List (Nat × TypeId × List Value)}
theorem lE {w : World} {base e n sz : Nat} {v : Value} {xs : List Value} (h : w.ownsRow base e sz v n xs) {k : Nat} (hk : v.ownBlock = some k) : k < w.heap.size := (h.lt k hk).2
theorem yA {w w' : World} {base e sz : Nat} {v : Value} {n : Nat} {xs : List Value} (h : w.ownsRow base e sz v n xs) (hg : w.grownBy w' none) : w'.ownsRow base e sz v n xs := by
 refine h.kept hg ?_
 rcases hv : v.ownBlock with _ | k
 ·exact .inl rfl
 ·exact .inr (by simp)
theorem Many.grow {W' : World} (h : Many w0 F W rs ls ps) (hg : W.grownBy W' none) : Many w0 F W' rs ls ps where
 own := fun j r hr => yA (h.own j r hr) hg
 mine := h.mine
 apart := h.apart
 lit := fun p hp => ⟨zA (h.lit p hp).1 hg (by simp), (h.lit p hp).2⟩
 pre := fun p hp => ⟨(h.pre p hp).1.kept hg (by simp), (h.pre p hp).2⟩
 but := h.but.step hg (by simp)
theorem Many.drew (h : Many w0 F W rs ls ps) : Many w0 F W.drew rs ls ps := h.grow (zW W none)
theorem Many.alloc (h : Many w0 F W rs ls ps) (o : Obj) : Many w0 F (W.alloc o) rs ((W.heap.size, o) :: ls) ps where
 own := fun j r hr => (h.own j r hr).alloc o
 mine := h.mine
 apart := h.apart
 lit := fun p hp => by
  rcases List.mem_cons.1 hp with rfl | hp
  ·exact ⟨heap_alloc_new W o, fun j r hr e => (by have := lE (h.own j r hr) e; simp only at this; omega), h.but.size⟩
  ·exact ⟨zA (h.lit p hp).1 (World.grownBy_alloc W o none) (by simp), (h.lit p hp).2⟩
 pre := fun p hp => ⟨(h.pre p hp).1.kept (World.grownBy_alloc W o none) (by simp), (h.pre p hp).2⟩
 but := h.but.step (World.grownBy_alloc W o none) (by simp)
theorem qD {α : Type} {l : List α} {j i : Nat} {x r : α} (h : (l.set j x)[i]? = some r) : (i = j ∧ r = x ∧ j < l.length) ∨ (i ≠ j ∧ l[i]? = some r) := by
 by_cases e : i = j
 ·subst e
  left
  rw [List.getElem?_set] at h
  simp only [if_true] at h
  split at h
  ·exact ⟨rfl, (Option.some.inj h).symm, by assumption⟩
  ·cases h
 ·exact .inr ⟨e, by rwa [List.getElem?_set_ne (Ne.symm e)] at h⟩
theorem Many.append {W' : World} (h : Many w0 F W rs ls ps) {j : Nat} {r : RowS} (hr : rs[j]? = some r) {v' : Value} {n' : Nat} {us : List Value}
  (ho : W'.ownsRow r.base r.e r.sz v' n' (r.xs ++ us)) (hg : W.grownBy W' r.v.ownBlock) (hm : lY W W' r.v v') : Many w0 F W' (rs.set j ⟨r.base, r.e, v', n', r.xs ++ us, r.sz⟩) ls ps where
 own := fun i s hs => by
  rcases qD hs with ⟨rfl, rfl, _⟩ | ⟨hne, hs⟩
  ·exact ho
  ·refine (h.own i s hs).kept hg ?_
   rcases hb : s.v.ownBlock with _ | k
   ·exact .inl rfl
   ·exact .inr fun e => h.apart i j s r hne hs hr k hb (by rw [← e])
 mine := fun i s hs k hk => by
  rcases qD hs with ⟨rfl, rfl, _⟩ | ⟨hne, hs⟩
  ·rcases hm with hm | ⟨_, hm⟩
   ·exact h.mine i r hr k (hm ▸ hk)
   ·have := hm k hk
    have := h.but.size
    exact .inr (by omega)
  ·exact h.mine i s hs k hk
 apart := fun i i' s s' hne hs hs' k hk => by
  rcases qD hs with ⟨rfl, rfl, _⟩ | ⟨h1, hs2⟩
  ·rcases qD hs' with ⟨rfl, _, _⟩ | ⟨h2, hs'⟩
   ·exact absurd rfl hne
   ·rcases hm with hm | ⟨_, hm⟩
    ·exact h.apart i i' r s' hne hr hs' k (hm ▸ hk)
    ·intro e
     have h3 := hm k hk
     have h4 := lE (h.own i' s' hs') e
     omega
  ·rcases qD hs' with ⟨rfl, rfl, _⟩ | ⟨h2, hs'⟩
   ·rcases hm with hm | ⟨_, hm⟩
    ·exact fun e => h.apart i i' s r hne hs2 hr k hk (by rw [← hm]; exact e)
    ·intro e
     have h3 := hm k e
     have h4 := lE (h.own i s hs2) hk
     omega
   ·exact h.apart i i' s s' hne hs2 hs' k hk
 lit := fun p hp => by
  obtain ⟨h1, h2, hlow⟩ := h.lit p hp
  refine ⟨zA h1 hg (h2 j r hr), fun i s hs e => ?_, hlow⟩
  rcases qD hs with ⟨rfl, rfl, _⟩ | ⟨hne, hs⟩
  ·rcases hm with hm | ⟨_, hm⟩
   ·exact h2 i r hr (hm ▸ e)
   ·have h3 := hm _ e
    have h4 := zJ h1
    omega
  ·exact h2 i s hs e
 pre := fun p hp => by
  obtain ⟨h1, h2⟩ := h.pre p hp
  have harr : Arr W' p.1 p.2.1 p.2.2 := by
   by_cases e : r.v.ownBlock = some p.1
   ·rcases hm with hm | ⟨hm, _⟩
    ·obtain ⟨h3, h4, h5⟩ := h2 j r hr e
     rw [h5] at ho
     rcases ho.2 with ⟨hv, _⟩ | ⟨g, cap, cur, hv, _⟩
     ·rw [hv] at hm; rw [e] at hm; simp [Value.ownBlock] at hm
     ·subst hv
      have hgp : g = p.1 := by rw [e] at hm; simpa [Value.ownBlock] using hm
      subst hgp
      have ha := Arr.of_owns ho
      rw [h4] at ha
      obtain ⟨q, hq⟩ := h3
      rw [← hq, List.append_assoc] at ha
      exact ha.front
    ·exact h1.kept hm (by simp)
   ·exact h1.kept hg e
  refine ⟨harr, fun i s hs e => ?_⟩
  rcases qD hs with ⟨rfl, rfl, _⟩ | ⟨hne, hs⟩
  ·rcases hm with hm | ⟨_, hm⟩
   ·obtain ⟨h3, h4, h5⟩ := h2 i r hr (hm ▸ e)
    exact ⟨h3.trans (List.prefix_append _ _), h4, h5⟩
   ·have h3 := hm _ e
    have h4 := h1.lt
    omega
  ·exact h2 i s hs e
 but := h.but.step hg (h.mine j r hr)
end
end Go.Proofs.Ytgbfaggnnfoamaa
