/- Part 9 of the proof: Many, Many2. -/
import Derived.Test.YtjfdomfendbhfaaQb8
set_option linter.unusedVariables false
set_option linter.unusedSimpArgs false
namespace Go.Proofs.Ytjfdomfendbhfaa
open Go.RowKit
structure ElemN (P : Program) (t e : TypeId) (sz : Nat) (z : Value) (bytes : Nat) : Prop where
 ht : P.underlying t = some (.slice e)
 hi : (P.info? e).map (fun i => (i.zero, i.size, i.bytes)) = some (some z, sz, bytes)
 hz : z.cells.size = sz
 pos : 0 < sz
theorem ElemOk.toN {P : Program} {t e : TypeId} {z : Value} {bytes : Nat} (E : ElemOk P t e z bytes) : ElemN P t e 1 z bytes := ⟨E.ht, E.hi, E.hz, by decide⟩
theorem run_append_moved {P : Program} {w : World} (base : Nat) (t ty : TypeId) {e : TypeId} {z : Value} {bytes : Nat} (E : ElemOk P t e z bytes)
  (v : Value) (n : Nat) (xs : List Value) (hown : w.ownsRow base e 1 v n xs) (g c : Nat) (u : Value) (hu : w.cell? ⟨g, 0, none⟩ = some u) (h1 : u.oneCell' = true)
  (h63 : n + 1 ≤ maxLen) (hbytes : (n + 1) * bytes ≤ 140737488355328) (hbase : base ≤ w.heap.size) :
  ∃ v' w', (Builtin.append_ #[t, t] ty #[v, .slice (some ⟨g, 0, none⟩) 1 c]).run P w = .ok v' w' ∧ w'.ownsRow base e 1 v' (n + 1) (xs ++ [u]) ∧ w.grownBy w' v.ownBlock ∧ nM w w' v v' := by
 obtain ⟨i, hi, hz, hsz, hby⟩ := info_parts E.hi
 have hnews : ∀ j u', [u][j]? = some u' → w.cell? ((⟨g, 0, none⟩ : Addr).add j) = some u' := by
  intro j u' hj
  match j, hj with
  | 0, hj => simp at hj; subst hj; simpa [Addr.add] using hu
 have hone : ∀ u' ∈ [u], u'.oneCell' = true := by intro u' hu; simp at hu; subst hu; exact h1
 obtain ⟨v', w', hr, h2, h3, h4⟩ := run_append_own (P := P) w base t ty e i z 1 bytes E.ht hi hz hsz hby E.hz (by decide) v n xs hown ⟨g, 0, none⟩ 1 c [u] rfl hnews hone h63 hbytes hbase
 refine ⟨v', w', hr, h2, h3, ?_⟩
 have hsmall : n + 1 ≤ 9223372036854775807 := by simp only [maxLen] at h63; omega
 rcases hown.2 with ⟨rfl, rfl⟩ | ⟨b, cap, cur, rfl, hb, hg, hnc, hcm, hcs, htake⟩
 ·have hr2 := run_append_nil (P := P) w t ty e i z E.ht hi hz ⟨g, 0, none⟩ 1 c [u] (by simp [hsz]) hnews (by omega) (by omega) (by rw [hby]; simp at hbytes; omega)
  rw [hr2] at hr
  injection hr with e1 e2
  subst e1; subst e2
  refine .inr ⟨uB (World.grownBy_alloc w _ none) rfl rfl rfl rfl, fun k hk => ?_⟩
  have : w.heap.size = k := by simpa [Value.ownBlock] using hk
  omega
 ·by_cases hroom : n + 1 ≤ cap
  ·obtain ⟨w2, hr2, _⟩ := run_append_fits (P := P) w base t ty e i 1 E.ht hi hsz b n cap xs hown ⟨g, 0, none⟩ 1 c [u] rfl hnews hone hroom
   rw [hr2] at hr
   injection hr with e1 e2
   subst e1
   exact .inl rfl
  ·have holds : ∀ j u, xs[j]? = some u → w.cell? ((⟨b, 0, none⟩ : Addr).add j) = some u := hown.cells (g := b) rfl
   have hlo : xs.length = n * i.size := by rw [hsz]; exact hown.1
   have hr2 := run_append_grow (P := P) w t ty e i z E.ht hi hz ⟨b, 0, none⟩ n cap xs hlo holds ⟨g, 0, none⟩ 1 c [u] (by simp [hsz]) hnews (by omega) (by omega) (growslice_fits (by omega) (by rw [hby]; exact hbytes))
   rw [hr2] at hr
   injection hr with e1 e2
   subst e1; subst e2
   refine .inr ⟨uB (World.grownBy_alloc w _ none) rfl rfl rfl rfl, fun k hk => ?_⟩
   have : w.heap.size = k := by simpa [Value.ownBlock] using hk
   omega
structure RowS where
 base : Nat
 e : TypeId
 v : Value
 n : Nat
 xs : List Value
 sz : Nat
structure GrownBut (w w' : World) (F : Nat → Prop) : Prop where
 os : w'.os = w.os
 tape : w'.tape = w.tape
 output : w'.output = w.output
 size : w.heap.size ≤ w'.heap.size
 block : ∀ k, k < w.heap.size → ¬ F k → w'.heap[k]? = w.heap[k]?
theorem GrownBut.refl (w : World) (F : Nat → Prop) : GrownBut w w F := ⟨rfl, rfl, rfl, Nat.le_refl _, fun _ _ _ => rfl⟩
theorem GrownBut.step {w w' w'' : World} {F : Nat → Prop} {row : Option Nat} (h : GrownBut w w' F) (hg : w'.grownBy w'' row) (hr : ∀ k, row = some k → F k ∨ w.heap.size ≤ k) : GrownBut w w'' F :=
 ⟨hg.os.trans h.os, hg.tape.trans h.tape, hg.output.trans h.output, Nat.le_trans h.size hg.size, fun k hk hf => by
  refine (hg.block k (Nat.lt_of_lt_of_le hk h.size) fun e => ?_).trans (h.block k hk hf)
  rcases hr k e.symm with h | h
  ·exact hf h
  ·omega⟩
theorem GrownBut.grown {w0 w w' : World} {F : Nat → Prop} {row : Option Nat} (h : GrownBut w w' F) (h0 : w0.grownBy w row) (hF : ∀ k, F k → row = some k ∨ w0.heap.size ≤ k) : w0.grownBy w' row :=
 ⟨h.os.trans h0.os, h.tape.trans h0.tape, h.output.trans h0.output, Nat.le_trans h0.size h.size, fun k hk hne => by
  refine (h.block k (Nat.lt_of_lt_of_le hk h0.size) fun hf => ?_).trans (h0.block k hk hne)
  rcases hF k hf with e | e
  ·exact hne e.symm
  ·omega⟩
theorem GrownBut.cell {w w' : World} {F : Nat → Prop} (h : GrownBut w w' F) {p : Addr} {u : Value} (hc : w.cell? p = some u) (hf : ¬ F p.block) : w'.cell? p = some u :=
 (World.cell?_of_block (h.block p.block (World.block_lt_of_cell? w p hc) hf)).trans hc
theorem GrownBut.heap {w w' : World} {F : Nat → Prop} (h : GrownBut w w' F) {p : Nat} {o : Obj} (hc : w.heap[p]? = some o) (hf : ¬ F p) : w'.heap[p]? = some o :=
 (h.block p (zN hc) hf).trans hc
structure Many (w0 : World) (F : Nat → Prop) (W : World) (rs : List RowS) (ls : List (Nat × Obj)) (ps : List (Nat × TypeId × List Value)) : Prop where
 own : ∀ (j : Nat) (r : RowS), rs[j]? = some r → W.ownsRow r.base r.e r.sz r.v r.n r.xs
 mine : ∀ (j : Nat) (r : RowS), rs[j]? = some r → ∀ k, r.v.ownBlock = some k → F k ∨ w0.heap.size ≤ k
 apart : ∀ (i j : Nat) (r s : RowS), i ≠ j → rs[i]? = some r → rs[j]? = some s → ∀ k, r.v.ownBlock = some k → s.v.ownBlock ≠ some k
 lit : ∀ p ∈ ls, W.heap[p.1]? = some p.2 ∧ (∀ (j : Nat) (r : RowS), rs[j]? = some r → r.v.ownBlock ≠ some p.1) ∧ w0.heap.size ≤ p.1
 pre : ∀ p ∈ ps, Arr W p.1 p.2.1 p.2.2 ∧ ∀ (j : Nat) (r : RowS), rs[j]? = some r → r.v.ownBlock = some p.1 → p.2.2 <+: r.xs ∧ r.e = p.2.1 ∧ r.sz = 1
 but : GrownBut w0 W F
section
variable {w0 W : World} {F : Nat → Prop} {rs : List RowS} {ls : List (Nat × Obj)} {ps : List (Nat × TypeId × List Value)}
theorem own_lt {w : World} {base e n sz : Nat} {v : Value} {xs : List Value} (h : w.ownsRow base e sz v n xs) {k : Nat} (hk : v.ownBlock = some k) : k < w.heap.size := (h.lt k hk).2
theorem zV {w w' : World} {base e sz : Nat} {v : Value} {n : Nat} {xs : List Value} (h : w.ownsRow base e sz v n xs) (hg : w.grownBy w' none) : w'.ownsRow base e sz v n xs := by
 refine h.kept hg ?_
 rcases hv : v.ownBlock with _ | k
 ·exact .inl rfl
 ·exact .inr (by simp)
theorem Many.grow {W' : World} (h : Many w0 F W rs ls ps) (hg : W.grownBy W' none) : Many w0 F W' rs ls ps where
 own := fun j r hr => zV (h.own j r hr) hg
 mine := h.mine
 apart := h.apart
 lit := fun p hp => ⟨zB (h.lit p hp).1 hg (by simp), (h.lit p hp).2⟩
 pre := fun p hp => ⟨(h.pre p hp).1.kept hg (by simp), (h.pre p hp).2⟩
 but := h.but.step hg (by simp)
theorem Many.drew (h : Many w0 F W rs ls ps) : Many w0 F W.drew rs ls ps := h.grow (zP W none)
theorem Many.alloc (h : Many w0 F W rs ls ps) (o : Obj) : Many w0 F (W.alloc o) rs ((W.heap.size, o) :: ls) ps where
 own := fun j r hr => (h.own j r hr).alloc o
 mine := h.mine
 apart := h.apart
 lit := fun p hp => by
  rcases List.mem_cons.1 hp with rfl | hp
  ·exact ⟨heap_alloc_new W o, fun j r hr e => (by have := own_lt (h.own j r hr) e; simp only at this; omega), h.but.size⟩
  ·exact ⟨zB (h.lit p hp).1 (World.grownBy_alloc W o none) (by simp), (h.lit p hp).2⟩
 pre := fun p hp => ⟨(h.pre p hp).1.kept (World.grownBy_alloc W o none) (by simp), (h.pre p hp).2⟩
 but := h.but.step (World.grownBy_alloc W o none) (by simp)
theorem jE {α : Type} {l : List α} {j i : Nat} {x r : α} (h : (l.set j x)[i]? = some r) : (i = j ∧ r = x ∧ j < l.length) ∨ (i ≠ j ∧ l[i]? = some r) := by
 by_cases e : i = j
 ·subst e
  left
  rw [List.getElem?_set] at h
  simp only [if_true] at h
  split at h
  ·exact ⟨rfl, (Option.some.inj h).symm, by assumption⟩
  ·cases h
 ·exact .inr ⟨e, by rwa [List.getElem?_set_ne (Ne.symm e)] at h⟩
theorem Many.append {W' : World} (h : Many w0 F W rs ls ps) {j : Nat} {r : RowS} (hr : rs[j]? = some r) {v' : Value} {n' : Nat} {us : List Value}
  (ho : W'.ownsRow r.base r.e r.sz v' n' (r.xs ++ us)) (hg : W.grownBy W' r.v.ownBlock) (hm : nM W W' r.v v') : Many w0 F W' (rs.set j ⟨r.base, r.e, v', n', r.xs ++ us, r.sz⟩) ls ps where
 own := fun i s hs => by
  rcases jE hs with ⟨rfl, rfl, _⟩ | ⟨hne, hs⟩
  ·exact ho
  ·refine (h.own i s hs).kept hg ?_
   rcases hb : s.v.ownBlock with _ | k
   ·exact .inl rfl
   ·exact .inr fun e => h.apart i j s r hne hs hr k hb (by rw [← e])
 mine := fun i s hs k hk => by
  rcases jE hs with ⟨rfl, rfl, _⟩ | ⟨hne, hs⟩
  ·rcases hm with hm | ⟨_, hm⟩
   ·exact h.mine i r hr k (hm ▸ hk)
   ·have := hm k hk
    have := h.but.size
    exact .inr (by omega)
  ·exact h.mine i s hs k hk
 apart := fun i i' s s' hne hs hs' k hk => by
  rcases jE hs with ⟨rfl, rfl, _⟩ | ⟨h1, hs2⟩
  ·rcases jE hs' with ⟨rfl, _, _⟩ | ⟨h2, hs'⟩
   ·exact absurd rfl hne
   ·rcases hm with hm | ⟨_, hm⟩
    ·exact h.apart i i' r s' hne hr hs' k (hm ▸ hk)
    ·intro e
     have h3 := hm k hk
     have h4 := own_lt (h.own i' s' hs') e
     omega
  ·rcases jE hs' with ⟨rfl, rfl, _⟩ | ⟨h2, hs'⟩
   ·rcases hm with hm | ⟨_, hm⟩
    ·exact fun e => h.apart i i' s r hne hs2 hr k hk (by rw [← hm]; exact e)
    ·intro e
     have h3 := hm k e
     have h4 := own_lt (h.own i s hs2) hk
     omega
   ·exact h.apart i i' s s' hne hs2 hs' k hk
 lit := fun p hp => by
  obtain ⟨h1, h2, hlow⟩ := h.lit p hp
  refine ⟨zB h1 hg (h2 j r hr), fun i s hs e => ?_, hlow⟩
  rcases jE hs with ⟨rfl, rfl, _⟩ | ⟨hne, hs⟩
  ·rcases hm with hm | ⟨_, hm⟩
   ·exact h2 i r hr (hm ▸ e)
   ·have h3 := hm _ e
    have h4 := zN h1
    omega
  ·exact h2 i s hs e
 pre := fun p hp => by
  obtain ⟨h1, h2⟩ := h.pre p hp
  have harr : Arr W' p.1 p.2.1 p.2.2 := by
   by_cases e : r.v.ownBlock = some p.1
   ·rcases hm with hm | ⟨hm, _⟩
    ·obtain ⟨h3, h4, h5⟩ := h2 j r hr e
     rw [h5] at ho
     rcases ho.2 with ⟨hv, _⟩ | ⟨g, cap, cur, hv, _⟩
     ·rw [hv] at hm; rw [e] at hm; simp [Value.ownBlock] at hm
     ·subst hv
      have hgp : g = p.1 := by rw [e] at hm; simpa [Value.ownBlock] using hm
      subst hgp
      have ha := Arr.of_owns ho
      rw [h4] at ha
      obtain ⟨q, hq⟩ := h3
      rw [← hq, List.append_assoc] at ha
      exact ha.front
    ·exact h1.kept hm (by simp)
   ·exact h1.kept hg e
  refine ⟨harr, fun i s hs e => ?_⟩
  rcases jE hs with ⟨rfl, rfl, _⟩ | ⟨hne, hs⟩
  ·rcases hm with hm | ⟨_, hm⟩
   ·obtain ⟨h3, h4, h5⟩ := h2 i r hr (hm ▸ e)
    exact ⟨h3.trans (List.prefix_append _ _), h4, h5⟩
   ·have h3 := hm _ e
    have h4 := h1.lt
    omega
  ·exact h2 i s hs e
 but := h.but.step hg (h.mine j r hr)
end
theorem Many.two {w : World} {r s : RowS} (hr : w.ownsRow r.base r.e r.sz r.v r.n r.xs) (hs : w.ownsRow s.base s.e s.sz s.v s.n s.xs) (hne : ∀ k, r.v.ownBlock = some k → s.v.ownBlock ≠ some k) :
  Many w (fun k => r.v.ownBlock = some k ∨ s.v.ownBlock = some k) w [r, s] [] [] where
 own := fun j x hx => by
  match j, hx with
  | 0, hx => simp at hx; subst hx; exact hr
  | 1, hx => simp at hx; subst hx; exact hs
 mine := fun j x hx k hk => by
  match j, hx with
  | 0, hx => simp at hx; subst hx; exact .inl (.inl hk)
  | 1, hx => simp at hx; subst hx; exact .inl (.inr hk)
 apart := fun i j x y hij hx hy k hk => by
  match i, j, hij, hx, hy with
  | 0, 1, _, hx, hy => simp at hx hy; subst hx; subst hy; exact hne k hk
  | 1, 0, _, hx, hy => simp at hx hy; subst hx; subst hy; exact fun e => hne k e hk
  | 0, 0, h, _, _ => exact absurd rfl h
  | 1, 1, h, _, _ => exact absurd rfl h
 lit := fun p hp => by simp at hp
 pre := fun p hp => by simp at hp
 but := GrownBut.refl _ _
def SrcRow (w : World) (sz : Nat) (sv : Value) (m : Nat) (news : List Value) : Prop :=
 (∃ a cap, sv = .slice a 0 cap ∧ m = 0 ∧ news = []) ∨ ∃ b off cap, sv = .slice (some ⟨b, off, none⟩) m cap ∧ news.length = m * sz ∧ m ≤ maxLen ∧ ∀ j u, news[j]? = some u → w.cell? ⟨b, off + j, none⟩ = some u
theorem Row.src {B : Nat} {w : World} {v : Value} {xs : List Value} (h : Row B w v xs) : SrcRow w 1 v xs.length xs := by
 rcases h with ⟨a, cap, rfl, rfl⟩ | ⟨b, off, cap, rfl, _, h2, h3, hra⟩
 ·exact .inl ⟨a, cap, rfl, rfl, rfl⟩
 ·refine .inr ⟨b, off, cap, rfl, by omega, by omega, fun j u hj => ?_⟩
  have hjl : j < xs.length := by
   rcases Nat.lt_or_ge j xs.length with h | h
   ·exact h
   ·rw [List.getElem?_eq_none h] at hj; cases hj
  rw [List.getElem?_eq_getElem hjl] at hj
  rw [hra.2 j hjl, hj]
theorem run_append_movedR {P : Program} {w : World} (base : Nat) (t ty : TypeId) {e : TypeId} {sz : Nat} {z : Value} {bytes : Nat} (E : ElemN P t e sz z bytes)
  (v : Value) (n : Nat) (xs : List Value) (hown : w.ownsRow base e sz v n xs) (sv : Value) (m : Nat) (news : List Value) (hrow : SrcRow w sz sv m news) (h1 : ∀ u ∈ news, u.oneCell' = true)
  (h63 : n + m ≤ maxLen) (hbytes : (n + m) * bytes ≤ 140737488355328) (hbase : base ≤ w.heap.size) :
  ∃ v' w', (Builtin.append_ #[t, t] ty #[v, sv]).run P w = .ok v' w' ∧ w'.ownsRow base e sz v' (n + m) (xs ++ news) ∧ w.grownBy w' v.ownBlock ∧ nM w w' v v' := by
 obtain ⟨i, hi, hz, hsz, hby⟩ := info_parts E.hi
 have hpos := E.pos
 have hsmall : n + m ≤ 9223372036854775807 := by simp only [maxLen] at h63; omega
 have hadd : ∀ (b off j : Nat), (⟨b, off, none⟩ : Addr).add j = ⟨b, off + j, none⟩ := fun b off j => by unfold Addr.add; split <;> simp_all
 have stay : ∀ (a' : Addr) (cap : Nat), m = 0 → news = [] → ∃ v' w', (Builtin.append_ #[t, t] ty #[v, .slice (some a') 0 cap]).run P w = .ok v' w' ∧ w'.ownsRow base e sz v' (n + m) (xs ++ news) ∧ w.grownBy w' v.ownBlock ∧ nM w w' v v' := by
  intro a' cap hm0 hn
  subst hn
  subst hm0
  obtain ⟨v', w', hr, h2, h3, h4⟩ := run_append_own (P := P) w base t ty e i z sz bytes E.ht hi hz hsz hby E.hz hpos v n xs hown a' 0 cap [] (by simp) (fun j u hj => by simp at hj) (fun u hu => by simp at hu) (by simpa using h63) (by simpa using hbytes) hbase
  refine ⟨v', w', hr, h2, h3, ?_⟩
  rcases hown.2 with ⟨rfl, rfl⟩ | ⟨b, bc, cur, rfl, hb, hg, hnc, hcm, hcs, htake⟩
  ·have := h4.2 ⟨rfl, rfl⟩
   subst this
   exact .inl rfl
  ·obtain ⟨w2, hr2, _⟩ := run_append_fits (P := P) w base t ty e i sz E.ht hi hsz b n bc xs hown a' 0 cap [] (by simp) (fun j u hj => by simp at hj) (fun u hu => by simp at hu) (by omega)
   rw [hr2] at hr
   injection hr with e1 e2
   subst e1
   exact .inl rfl
 rcases hrow with ⟨a', cap, rfl, rfl, rfl⟩ | ⟨b, off, cap, rfl, hnl, hml, hra⟩
 ·cases a' with
  | none =>
   have hr : (Builtin.append_ #[t, t] ty #[v, .slice none 0 cap]).run P w = .ok v w := by
    rcases hown.2 with ⟨rfl, rfl⟩ | ⟨g, gc, cur, rfl, _, _, hnc, _⟩
    ·simp [Builtin.append_, run_underlying E.ht, sizeOf, typeInfo, hi, Builtin.lenOf, Builtin.firstCells]
    ·simp [Builtin.append_, run_underlying E.ht, sizeOf, typeInfo, hi, Builtin.lenOf, Builtin.firstCells, hnc, storeCells]
   exact ⟨v, w, hr, by simpa using hown, zL _ _, .inl rfl⟩
  | some a' => exact stay a' cap rfl rfl
 ·by_cases hm0 : m = 0
  ·have hn0 : news = [] := List.eq_nil_of_length_eq_zero (by rw [hnl, hm0]; simp)
   subst hm0
   exact stay _ _ rfl hn0
  have hnews : ∀ j u', news[j]? = some u' → w.cell? ((⟨b, off, none⟩ : Addr).add j) = some u' := fun j u' hj => by rw [hadd]; exact hra j u' hj
  obtain ⟨v', w', hr, h2', h3', _⟩ := run_append_own (P := P) w base t ty e i z sz bytes E.ht hi hz hsz hby E.hz hpos v n xs hown ⟨b, off, none⟩ m cap news hnl hnews h1 h63 hbytes hbase
  refine ⟨v', w', hr, h2', h3', ?_⟩
  rcases hown.2 with ⟨rfl, rfl⟩ | ⟨g, gc, cur, rfl, hb, hg, hnc, hcm, hcs, htake⟩
  ·have hr2 := run_append_nil (P := P) w t ty e i z E.ht hi hz ⟨b, off, none⟩ m cap news (by rw [hnl, hsz]) hnews (by omega) (by omega) (by rw [hby]; simp at hbytes; omega)
   rw [hr2] at hr
   injection hr with e1 e2
   subst e1; subst e2
   refine .inr ⟨uB (World.grownBy_alloc w _ none) rfl rfl rfl rfl, fun k hk => ?_⟩
   have : w.heap.size = k := by simpa [Value.ownBlock] using hk
   omega
  ·by_cases hroom : n + m ≤ gc
   ·obtain ⟨w2, hr2, _⟩ := run_append_fits (P := P) w base t ty e i sz E.ht hi hsz g n gc xs hown ⟨b, off, none⟩ m cap news hnl hnews h1 hroom
    rw [hr2] at hr
    injection hr with e1 e2
    subst e1
    exact .inl rfl
   ·have holds : ∀ j u, xs[j]? = some u → w.cell? ((⟨g, 0, none⟩ : Addr).add j) = some u := hown.cells (g := g) rfl
    have hlo : xs.length = n * i.size := by rw [hsz]; exact hown.1
    have hr2 := run_append_grow (P := P) w t ty e i z E.ht hi hz ⟨g, 0, none⟩ n gc xs hlo holds ⟨b, off, none⟩ m cap news (by rw [hnl, hsz]) hnews (by omega) (by omega) (growslice_fits (by omega) (by rw [hby]; exact hbytes))
    rw [hr2] at hr
    injection hr with e1 e2
    subst e1; subst e2
    refine .inr ⟨uB (World.grownBy_alloc w _ none) rfl rfl rfl rfl, fun k hk => ?_⟩
    have : w.heap.size = k := by simpa [Value.ownBlock] using hk
    omega
section
variable {w0 W W' : World} {F : Nat → Prop} {rs : List RowS} {ls ls' : List (Nat × Obj)} {ps : List (Nat × TypeId × List Value)}
end
def xH (a0 : Act) (l : List (Nat × Value)) : Act := l.foldl (fun a p => a.put (some p.1) p.2) a0
section
variable {P : Program} {md : Region.Mode} {ops : Array Oper} {Q : Exit → Act → World → Prop} {G : Array Bool → World → Prop}
theorem wpAnyG_named {fuel : Nat} {listed : Array Bool} {a : Act} {w : World} (h : ∀ Wp : Nat → Array Bool → Act → World → Prop, Wp = vY P md ops Q G → ∀ a0, a0 = a → Wp fuel listed a0 w) : vY P md ops Q G fuel listed a w := h _ rfl _ rfl
end
end Go.Proofs.Ytjfdomfendbhfaa
