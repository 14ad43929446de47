/- Part 4 of the proof: Many. -/
import Derived.Test.YtgbfaggnnfoamaaZi3
set_option linter.unusedVariables false
set_option linter.unusedSimpArgs false
namespace Go.Proofs.Ytgbfaggnnfoamaa
open Go.RowKit
structure ElemN (P : Program) (t e : TypeId) (sz : Nat) (z : Value) (bytes : Nat) : Prop where
 ht : P.underlying t = some (.slice e)
 hi : (P.info? e).map (fun i => (i.zero, i.size, i.bytes)) = some (some z, sz, bytes)
 hz : z.cells.size = sz
 pos : 0 < sz
theorem ElemOk.toN {P : Program} {t e : TypeId} {z : Value} {bytes : Nat} (E : ElemOk P t e z bytes) : ElemN P t e 1 z bytes := ⟨E.ht, E.hi, E.hz, by decide⟩
theorem sO {P : Program} {w : World} (base : Nat) (t ty : TypeId) {e : TypeId} {z : Value} {bytes : Nat} (E : ElemOk P t e z bytes)
  (v : Value) (n : Nat) (xs : List Value) (hown : w.ownsRow base e 1 v n xs) (g c : Nat) (u : Value) (hu : w.cell? ⟨g, 0, none⟩ = some u) (h1 : u.oneCell' = true)
  (h63 : n + 1 ≤ maxLen) (hbytes : (n + 1) * bytes ≤ 140737488355328) (hbase : base ≤ w.heap.size) :
  ∃ v' w', (Builtin.append_ #[t, t] ty #[v, .slice (some ⟨g, 0, none⟩) 1 c]).run P w = .ok v' w' ∧ w'.ownsRow base e 1 v' (n + 1) (xs ++ [u]) ∧ w.grownBy w' v.ownBlock ∧ lC w w' v v' := by
 obtain ⟨i, hi, hz, hsz, hby⟩ := info_parts E.hi
 have hnews : ∀ j u', [u][j]? = some u' → w.cell? ((⟨g, 0, none⟩ : Addr).add j) = some u' := by
  intro j u' hj
  match j, hj with
  | 0, hj => simp at hj; subst hj; simpa [Addr.add] using hu
 have hone : ∀ u' ∈ [u], u'.oneCell' = true := by intro u' hu; simp at hu; subst hu; exact h1
 obtain ⟨v', w', hr, h2, h3, h4⟩ := run_append_own (P := P) w base t ty e i z 1 bytes E.ht hi hz hsz hby E.hz (by decide) v n xs hown ⟨g, 0, none⟩ 1 c [u] rfl hnews hone h63 hbytes hbase
 refine ⟨v', w', hr, h2, h3, ?_⟩
 have hsmall : n + 1 ≤ 9223372036854775807 := by simp only [maxLen] at h63; omega
 rcases hown.2 with ⟨rfl, rfl⟩ | ⟨b, cap, cur, rfl, hb, hg, hnc, hcm, hcs, htake⟩
 ·have hr2 := run_append_nil (P := P) w t ty e i z E.ht hi hz ⟨g, 0, none⟩ 1 c [u] (by simp [hsz]) hnews (by omega) (by omega) (by rw [hby]; simp at hbytes; omega)
  rw [hr2] at hr
  injection hr with e1 e2
  subst e1; subst e2
  refine .inr ⟨yZ (World.grownBy_alloc w _ none) rfl rfl rfl rfl, fun k hk => ?_⟩
  have : w.heap.size = k := by simpa [Value.ownBlock] using hk
  omega
 ·by_cases hroom : n + 1 ≤ cap
  ·obtain ⟨w2, hr2, _⟩ := run_append_fits (P := P) w base t ty e i 1 E.ht hi hsz b n cap xs hown ⟨g, 0, none⟩ 1 c [u] rfl hnews hone hroom
   rw [hr2] at hr
   injection hr with e1 e2
   subst e1
   exact .inl rfl
  ·have holds : ∀ j u, xs[j]? = some u → w.cell? ((⟨b, 0, none⟩ : Addr).add j) = some u := hown.cells (g := b) rfl
   have hlo : xs.length = n * i.size := by rw [hsz]; exact hown.1
   have hr2 := run_append_grow (P := P) w t ty e i z E.ht hi hz ⟨b, 0, none⟩ n cap xs hlo holds ⟨g, 0, none⟩ 1 c [u] (by simp [hsz]) hnews (by omega) (by omega) (growslice_fits (by omega) (by rw [hby]; exact hbytes))
   rw [hr2] at hr
   injection hr with e1 e2
   subst e1; subst e2
   refine .inr ⟨yZ (World.grownBy_alloc w _ none) rfl rfl rfl rfl, fun k hk => ?_⟩
   have : w.heap.size = k := by simpa [Value.ownBlock] using hk
   omega
structure RowS where
 base : Nat
 e : TypeId
 v : Value
 n : Nat
 xs : List Value
 sz : Nat
structure GrownBut (w w' : World) (F : Nat → Prop) : Prop where
 os : w'.os = w.os
 tape : w'.tape = w.tape
 output : w'.output = w.output
 size : w.heap.size ≤ w'.heap.size
 block : ∀ k, k < w.heap.size → ¬ F k → w'.heap[k]? = w.heap[k]?
theorem GrownBut.refl (w : World) (F : Nat → Prop) : GrownBut w w F := ⟨rfl, rfl, rfl, Nat.le_refl _, fun _ _ _ => rfl⟩
theorem GrownBut.step {w w' w'' : World} {F : Nat → Prop} {row : Option Nat} (h : GrownBut w w' F) (hg : w'.grownBy w'' row) (hr : ∀ k, row = some k → F k ∨ w.heap.size ≤ k) : GrownBut w w'' F :=
 ⟨hg.os.trans h.os, hg.tape.trans h.tape, hg.output.trans h.output, Nat.le_trans h.size hg.size, fun k hk hf => by
  refine (hg.block k (Nat.lt_of_lt_of_le hk h.size) fun e => ?_).trans (h.block k hk hf)
  rcases hr k e.symm with h | h
  ·exact hf h
  ·omega⟩
theorem GrownBut.grown {w0 w w' : World} {F : Nat → Prop} {row : Option Nat} (h : GrownBut w w' F) (h0 : w0.grownBy w row) (hF : ∀ k, F k → row = some k ∨ w0.heap.size ≤ k) : w0.grownBy w' row :=
 ⟨h.os.trans h0.os, h.tape.trans h0.tape, h.output.trans h0.output, Nat.le_trans h0.size h.size, fun k hk hne => by
  refine (h.block k (Nat.lt_of_lt_of_le hk h0.size) fun hf => ?_).trans (h0.block k hk hne)
  rcases hF k hf with e | e
  ·exact hne e.symm
  ·omega⟩
theorem GrownBut.cell {w w' : World} {F : Nat → Prop} (h : GrownBut w w' F) {p : Addr} {u : Value} (hc : w.cell? p = some u) (hf : ¬ F p.block) : w'.cell? p = some u :=
 (World.cell?_of_block (h.block p.block (World.block_lt_of_cell? w p hc) hf)).trans hc
theorem GrownBut.heap {w w' : World} {F : Nat → Prop} (h : GrownBut w w' F) {p : Nat} {o : Obj} (hc : w.heap[p]? = some o) (hf : ¬ F p) : w'.heap[p]? = some o :=
 (h.block p (zQ hc) hf).trans hc
structure Many (w0 : World) (F : Nat → Prop) (W : World) (rs : List RowS) (ls : List (Nat × Obj)) (ps : List (Nat × TypeId × List Value)) : Prop where
 own : ∀ (j : Nat) (r : RowS), rs[j]? = some r → W.ownsRow r.base r.e r.sz r.v r.n r.xs
 mine : ∀ (j : Nat) (r : RowS), rs[j]? = some r → ∀ k, r.v.ownBlock = some k → F k ∨ w0.heap.size ≤ k
 apart : ∀ (i j : Nat) (r s : RowS), i ≠ j → rs[i]? = some r → rs[j]? = some s → ∀ k, r.v.ownBlock = some k → s.v.ownBlock ≠ some k
 lit : ∀ p ∈ ls, W.heap[p.1]? = some p.2 ∧ (∀ (j : Nat) (r : RowS), rs[j]? = some r → r.v.ownBlock ≠ some p.1) ∧ w0.heap.size ≤ p.1
 pre : ∀ p ∈ ps, Arr W p.1 p.2.1 p.2.2 ∧ ∀ (j : Nat) (r : RowS), rs[j]? = some r → r.v.ownBlock = some p.1 → p.2.2 <+: r.xs ∧ r.e = p.2.1 ∧ r.sz = 1
 but : GrownBut w0 W F
section
variable {w0 W : World} {F : Nat → Prop} {rs : List RowS} {ls : List (Nat × Obj)} {ps : List (Nat × TypeId × List Value)}
theorem own_lt {w : World} {base e n sz : Nat} {v : Value} {xs : List Value} (h : w.ownsRow base e sz v n xs) {k : Nat} (hk : v.ownBlock = some k) : k < w.heap.size := (h.lt k hk).2
theorem yB {w w' : World} {base e sz : Nat} {v : Value} {n : Nat} {xs : List Value} (h : w.ownsRow base e sz v n xs) (hg : w.grownBy w' none) : w'.ownsRow base e sz v n xs := by
 refine h.kept hg ?_
 rcases hv : v.ownBlock with _ | k
 ·exact .inl rfl
 ·exact .inr (by simp)
theorem Many.grow {W' : World} (h : Many w0 F W rs ls ps) (hg : W.grownBy W' none) : Many w0 F W' rs ls ps where
 own := fun j r hr => yB (h.own j r hr) hg
 mine := h.mine
 apart := h.apart
 lit := fun p hp => ⟨zA (h.lit p hp).1 hg (by simp), (h.lit p hp).2⟩
 pre := fun p hp => ⟨(h.pre p hp).1.kept hg (by simp), (h.pre p hp).2⟩
 but := h.but.step hg (by simp)
theorem Many.drew (h : Many w0 F W rs ls ps) : Many w0 F W.drew rs ls ps := h.grow (zX W none)
theorem Many.alloc (h : Many w0 F W rs ls ps) (o : Obj) : Many w0 F (W.alloc o) rs ((W.heap.size, o) :: ls) ps where
 own := fun j r hr => (h.own j r hr).alloc o
 mine := h.mine
 apart := h.apart
 lit := fun p hp => by
  rcases List.mem_cons.1 hp with rfl | hp
  ·exact ⟨heap_alloc_new W o, fun j r hr e => (by have := own_lt (h.own j r hr) e; simp only at this; omega), h.but.size⟩
  ·exact ⟨zA (h.lit p hp).1 (World.grownBy_alloc W o none) (by simp), (h.lit p hp).2⟩
 pre := fun p hp => ⟨(h.pre p hp).1.kept (World.grownBy_alloc W o none) (by simp), (h.pre p hp).2⟩
 but := h.but.step (World.grownBy_alloc W o none) (by simp)
theorem mG {α : Type} {l : List α} {j i : Nat} {x r : α} (h : (l.set j x)[i]? = some r) : (i = j ∧ r = x ∧ j < l.length) ∨ (i ≠ j ∧ l[i]? = some r) := by
 by_cases e : i = j
 ·subst e
  left
  rw [List.getElem?_set] at h
  simp only [if_true] at h
  split at h
  ·exact ⟨rfl, (Option.some.inj h).symm, by assumption⟩
  ·cases h
 ·exact .inr ⟨e, by rwa [List.getElem?_set_ne (Ne.symm e)] at h⟩
theorem Many.append {W' : World} (h : Many w0 F W rs ls ps) {j : Nat} {r : RowS} (hr : rs[j]? = some r) {v' : Value} {n' : Nat} {us : List Value}
  (ho : W'.ownsRow r.base r.e r.sz v' n' (r.xs ++ us)) (hg : W.grownBy W' r.v.ownBlock) (hm : lC W W' r.v v') : Many w0 F W' (rs.set j ⟨r.base, r.e, v', n', r.xs ++ us, r.sz⟩) ls ps where
 own := fun i s hs => by
  rcases mG hs with ⟨rfl, rfl, _⟩ | ⟨hne, hs⟩
  ·exact ho
  ·refine (h.own i s hs).kept hg ?_
   rcases hb : s.v.ownBlock with _ | k
   ·exact .inl rfl
   ·exact .inr fun e => h.apart i j s r hne hs hr k hb (by rw [← e])
 mine := fun i s hs k hk => by
  rcases mG hs with ⟨rfl, rfl, _⟩ | ⟨hne, hs⟩
  ·rcases hm with hm | ⟨_, hm⟩
   ·exact h.mine i r hr k (hm ▸ hk)
   ·have := hm k hk
    have := h.but.size
    exact .inr (by omega)
  ·exact h.mine i s hs k hk
 apart := fun i i' s s' hne hs hs' k hk => by
  rcases mG hs with ⟨rfl, rfl, _⟩ | ⟨h1, hs2⟩
  ·rcases mG hs' with ⟨rfl, _, _⟩ | ⟨h2, hs'⟩
   ·exact absurd rfl hne
   ·rcases hm with hm | ⟨_, hm⟩
    ·exact h.apart i i' r s' hne hr hs' k (hm ▸ hk)
    ·intro e
     have h3 := hm k hk
     have h4 := own_lt (h.own i' s' hs') e
     omega
  ·rcases mG hs' with ⟨rfl, rfl, _⟩ | ⟨h2, hs'⟩
   ·rcases hm with hm | ⟨_, hm⟩
    ·exact fun e => h.apart i i' s r hne hs2 hr k hk (by rw [← hm]; exact e)
    ·intro e
     have h3 := hm k e
     have h4 := own_lt (h.own i s hs2) hk
     omega
   ·exact h.apart i i' s s' hne hs2 hs' k hk
 lit := fun p hp => by
  obtain ⟨h1, h2, hlow⟩ := h.lit p hp
  refine ⟨zA h1 hg (h2 j r hr), fun i s hs e => ?_, hlow⟩
  rcases mG hs with ⟨rfl, rfl, _⟩ | ⟨hne, hs⟩
  ·rcases hm with hm | ⟨_, hm⟩
   ·exact h2 i r hr (hm ▸ e)
   ·have h3 := hm _ e
    have h4 := zQ h1
    omega
  ·exact h2 i s hs e
 pre := fun p hp => by
  obtain ⟨h1, h2⟩ := h.pre p hp
  have harr : Arr W' p.1 p.2.1 p.2.2 := by
   by_cases e : r.v.ownBlock = some p.1
   ·rcases hm with hm | ⟨hm, _⟩
    ·obtain ⟨h3, h4, h5⟩ := h2 j r hr e
     rw [h5] at ho
     rcases ho.2 with ⟨hv, _⟩ | ⟨g, cap, cur, hv, _⟩
     ·rw [hv] at hm; rw [e] at hm; simp [Value.ownBlock] at hm
     ·subst hv
      have hgp : g = p.1 := by rw [e] at hm; simpa [Value.ownBlock] using hm
      subst hgp
      have ha := Arr.of_owns ho
      rw [h4] at ha
      obtain ⟨q, hq⟩ := h3
      rw [← hq, List.append_assoc] at ha
      exact ha.front
    ·exact h1.kept hm (by simp)
   ·exact h1.kept hg e
  refine ⟨harr, fun i s hs e => ?_⟩
  rcases mG hs with ⟨rfl, rfl, _⟩ | ⟨hne, hs⟩
  ·rcases hm with hm | ⟨_, hm⟩
   ·obtain ⟨h3, h4, h5⟩ := h2 i r hr (hm ▸ e)
    exact ⟨h3.trans (List.prefix_append _ _), h4, h5⟩
   ·have h3 := hm _ e
    have h4 := h1.lt
    omega
  ·exact h2 i s hs e
 but := h.but.step hg (h.mine j r hr)
theorem Many.litcell (h : Many w0 F W rs ls ps) {g e : Nat} {u : Value} {m : Nat × Nat} (hl : (g, Obj.cells #[u] e m) ∈ ls) : W.cell? ⟨g, 0, none⟩ = some u := by
 simpa using zK (h.lit _ hl).1 0 (by simp)
theorem Many.precell (h : Many w0 F W rs ls ps) {g e : Nat} {xs : List Value} (hp : (g, e, xs) ∈ ps) (i : Nat) (hi : i < xs.length) : W.cell? ⟨g, i, none⟩ = some xs[i] := (h.pre _ hp).1.cell i hi
theorem wI {P : Program} {W : World} {ops : Array Oper} {o : Oper} {a : Act} {K : Act → World → Prop} {Q : Exit → Act → World → Prop} {R : Prop} (hgd : o.guard = none) (s x : Operand) (t : TypeId)
  (ho : o.op = .call { callee := .builtin .append, args := #[s, x], argTypes := #[t, t] }) {e : TypeId} {z : Value} {bytes : Nat} (E : ElemOk P t e z bytes) (j : Nat) (g c : Nat) (hx : a.eval x = .slice (some ⟨g, 0, none⟩) 1 c)
  (h : ∃ (w0 : World) (F : Nat → Prop) (rs : List RowS) (ls : List (Nat × Obj)) (ps : List (Nat × TypeId × List Value)), Many w0 F W rs ls ps ∧
   ∃ r : RowS, rs[j]? = some r ∧ r.e = e ∧ r.sz = 1 ∧ a.eval s = r.v ∧ r.n + 1 ≤ maxLen ∧ (r.n + 1) * bytes ≤ 140737488355328 ∧ r.base ≤ w0.heap.size ∧
   ∃ (u : Value) (g' : Nat) (m : Nat × Nat), (g', Obj.cells #[u] e m) ∈ ls ∧ g' = g ∧ u.oneCell' = true ∧
   ∀ sa sc w', Many w0 F w' (rs.set j ⟨r.base, r.e, .slice sa (r.n + 1) sc, r.n + 1, r.xs ++ [u], r.sz⟩) ls ps → K (a.put o.dst (.slice sa (r.n + 1) sc)) w') : if Region.wanted o (yielded ops a.tmps) = true then Oper.wp P o a W K Q else R := by
 obtain ⟨w0, F, rs, ls, ps, h, r, hr, rfl, hsz, hs, h63, hbytes, hbase, u, g', m, hl, rfl, h1, hK⟩ := h
 have hw : Region.wanted o (yielded ops a.tmps) = true := by simp [Region.wanted, hgd]
 rw [if_pos hw]
 have hu : W.cell? ⟨g', 0, none⟩ = some u := by simpa using zK (h.lit _ hl).1 0 (by simp)
 obtain ⟨v', w', hrun, h2, h3, h4⟩ := sO (P := P) r.base t o.type E r.v r.n r.xs (by have := h.own j r hr; rwa [hsz] at this) g' c u hu h1 h63 hbytes (Nat.le_trans hbase h.but.size)
 obtain ⟨sa, sc, rfl⟩ := tW h2
 unfold Oper.wp execOp
 simp only [ho, resolve, invoke, builtin, Sem.run_bind, Sem.run_pure, Result.andThen_ok, List.map_toArray, List.map_cons, List.map_nil, hs, hx, hrun]
 exact hK sa sc w' (h.append hr (by rw [hsz]; exact h2) h3 h4)
end
theorem Many.two {w : World} {r s : RowS} (hr : w.ownsRow r.base r.e r.sz r.v r.n r.xs) (hs : w.ownsRow s.base s.e s.sz s.v s.n s.xs) (hne : ∀ k, r.v.ownBlock = some k → s.v.ownBlock ≠ some k) :
  Many w (fun k => r.v.ownBlock = some k ∨ s.v.ownBlock = some k) w [r, s] [] [] where
 own := fun j x hx => by
  match j, hx with
  | 0, hx => simp at hx; subst hx; exact hr
  | 1, hx => simp at hx; subst hx; exact hs
 mine := fun j x hx k hk => by
  match j, hx with
  | 0, hx => simp at hx; subst hx; exact .inl (.inl hk)
  | 1, hx => simp at hx; subst hx; exact .inl (.inr hk)
 apart := fun i j x y hij hx hy k hk => by
  match i, j, hij, hx, hy with
  | 0, 1, _, hx, hy => simp at hx hy; subst hx; subst hy; exact hne k hk
  | 1, 0, _, hx, hy => simp at hx hy; subst hx; subst hy; exact fun e => hne k e hk
  | 0, 0, h, _, _ => exact absurd rfl h
  | 1, 1, h, _, _ => exact absurd rfl h
 lit := fun p hp => by simp at hp
 pre := fun p hp => by simp at hp
 but := GrownBut.refl _ _
theorem Many.see {w0 W : World} {F : Nat → Prop} {rs : List RowS} {ls : List (Nat × Obj)} {ps : List (Nat × TypeId × List Value)} (h : Many w0 F W rs ls ps) {j g cap : Nat} {r : RowS} (hr : rs[j]? = some r) (hv : r.v = .slice (some ⟨g, 0, none⟩) r.n cap) (hz : r.sz = 1) : Many w0 F W rs ls ((g, r.e, r.xs) :: ps) where
 own := h.own
 mine := h.mine
 apart := h.apart
 lit := h.lit
 pre := fun p hp => by
  rcases List.mem_cons.1 hp with rfl | hp
  ·have ho := h.own j r hr
   rw [hv, hz] at ho
   refine ⟨Arr.of_owns ho, fun i s hs e => ?_⟩
   by_cases hij : i = j
   ·subst hij
    rw [hr] at hs
    have := Option.some.inj hs
    subst this
    exact ⟨List.prefix_refl _, rfl, hz⟩
   ·exact absurd (by rw [hv]; rfl) (h.apart i j s r hij hs hr g e)
  ·exact h.pre p hp
 but := h.but
end Go.Proofs.Ytgbfaggnnfoamaa
