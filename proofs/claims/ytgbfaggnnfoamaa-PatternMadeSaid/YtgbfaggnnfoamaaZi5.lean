/- Part 5 of the proof: Many2, Inv2, KeyI. -/
import Derived.Test.YtgbfaggnnfoamaaZi4
import Derived.Maps.Own
import Derived.Maps.Views
set_option linter.unusedVariables false
set_option linter.unusedSimpArgs false
namespace Go.Proofs.Ytgbfaggnnfoamaa
open Go.RowKit
def SrcRow (w : World) (sz : Nat) (sv : Value) (m : Nat) (news : List Value) : Prop :=
 (∃ a cap, sv = .slice a 0 cap ∧ m = 0 ∧ news = []) ∨ ∃ b off cap, sv = .slice (some ⟨b, off, none⟩) m cap ∧ news.length = m * sz ∧ m ≤ maxLen ∧ ∀ j u, news[j]? = some u → w.cell? ⟨b, off + j, none⟩ = some u
theorem Row.src {B : Nat} {w : World} {v : Value} {xs : List Value} (h : Row B w v xs) : SrcRow w 1 v xs.length xs := by
 rcases h with ⟨a, cap, rfl, rfl⟩ | ⟨b, off, cap, rfl, _, h2, h3, hra⟩
 ·exact .inl ⟨a, cap, rfl, rfl, rfl⟩
 ·refine .inr ⟨b, off, cap, rfl, by omega, by omega, fun j u hj => ?_⟩
  have hjl : j < xs.length := by
   rcases Nat.lt_or_ge j xs.length with h | h
   ·exact h
   ·rw [List.getElem?_eq_none h] at hj; cases hj
  rw [List.getElem?_eq_getElem hjl] at hj
  rw [hra.2 j hjl, hj]
theorem run_append_movedR {P : Program} {w : World} (base : Nat) (t ty : TypeId) {e : TypeId} {sz : Nat} {z : Value} {bytes : Nat} (E : ElemN P t e sz z bytes)
  (v : Value) (n : Nat) (xs : List Value) (hown : w.ownsRow base e sz v n xs) (sv : Value) (m : Nat) (news : List Value) (hrow : SrcRow w sz sv m news) (h1 : ∀ u ∈ news, u.oneCell' = true)
  (h63 : n + m ≤ maxLen) (hbytes : (n + m) * bytes ≤ 140737488355328) (hbase : base ≤ w.heap.size) :
  ∃ v' w', (Builtin.append_ #[t, t] ty #[v, sv]).run P w = .ok v' w' ∧ w'.ownsRow base e sz v' (n + m) (xs ++ news) ∧ w.grownBy w' v.ownBlock ∧ lC w w' v v' := by
 obtain ⟨i, hi, hz, hsz, hby⟩ := info_parts E.hi
 have hpos := E.pos
 have hsmall : n + m ≤ 9223372036854775807 := by simp only [maxLen] at h63; omega
 have hadd : ∀ (b off j : Nat), (⟨b, off, none⟩ : Addr).add j = ⟨b, off + j, none⟩ := fun b off j => by unfold Addr.add; split <;> simp_all
 have stay : ∀ (a' : Addr) (cap : Nat), m = 0 → news = [] → ∃ v' w', (Builtin.append_ #[t, t] ty #[v, .slice (some a') 0 cap]).run P w = .ok v' w' ∧ w'.ownsRow base e sz v' (n + m) (xs ++ news) ∧ w.grownBy w' v.ownBlock ∧ lC w w' v v' := by
  intro a' cap hm0 hn
  subst hn
  subst hm0
  obtain ⟨v', w', hr, h2, h3, h4⟩ := run_append_own (P := P) w base t ty e i z sz bytes E.ht hi hz hsz hby E.hz hpos v n xs hown a' 0 cap [] (by simp) (fun j u hj => by simp at hj) (fun u hu => by simp at hu) (by simpa using h63) (by simpa using hbytes) hbase
  refine ⟨v', w', hr, h2, h3, ?_⟩
  rcases hown.2 with ⟨rfl, rfl⟩ | ⟨b, bc, cur, rfl, hb, hg, hnc, hcm, hcs, htake⟩
  ·have := h4.2 ⟨rfl, rfl⟩
   subst this
   exact .inl rfl
  ·obtain ⟨w2, hr2, _⟩ := run_append_fits (P := P) w base t ty e i sz E.ht hi hsz b n bc xs hown a' 0 cap [] (by simp) (fun j u hj => by simp at hj) (fun u hu => by simp at hu) (by omega)
   rw [hr2] at hr
   injection hr with e1 e2
   subst e1
   exact .inl rfl
 rcases hrow with ⟨a', cap, rfl, rfl, rfl⟩ | ⟨b, off, cap, rfl, hnl, hml, hra⟩
 ·cases a' with
  | none =>
   have hr : (Builtin.append_ #[t, t] ty #[v, .slice none 0 cap]).run P w = .ok v w := by
    rcases hown.2 with ⟨rfl, rfl⟩ | ⟨g, gc, cur, rfl, _, _, hnc, _⟩
    ·simp [Builtin.append_, run_underlying E.ht, sizeOf, typeInfo, hi, Builtin.lenOf, Builtin.firstCells]
    ·simp [Builtin.append_, run_underlying E.ht, sizeOf, typeInfo, hi, Builtin.lenOf, Builtin.firstCells, hnc, storeCells]
   exact ⟨v, w, hr, by simpa using hown, zO _ _, .inl rfl⟩
  | some a' => exact stay a' cap rfl rfl
 ·by_cases hm0 : m = 0
  ·have hn0 : news = [] := List.eq_nil_of_length_eq_zero (by rw [hnl, hm0]; simp)
   subst hm0
   exact stay _ _ rfl hn0
  have hnews : ∀ j u', news[j]? = some u' → w.cell? ((⟨b, off, none⟩ : Addr).add j) = some u' := fun j u' hj => by rw [hadd]; exact hra j u' hj
  obtain ⟨v', w', hr, h2', h3', _⟩ := run_append_own (P := P) w base t ty e i z sz bytes E.ht hi hz hsz hby E.hz hpos v n xs hown ⟨b, off, none⟩ m cap news hnl hnews h1 h63 hbytes hbase
  refine ⟨v', w', hr, h2', h3', ?_⟩
  rcases hown.2 with ⟨rfl, rfl⟩ | ⟨g, gc, cur, rfl, hb, hg, hnc, hcm, hcs, htake⟩
  ·have hr2 := run_append_nil (P := P) w t ty e i z E.ht hi hz ⟨b, off, none⟩ m cap news (by rw [hnl, hsz]) hnews (by omega) (by omega) (by rw [hby]; simp at hbytes; omega)
   rw [hr2] at hr
   injection hr with e1 e2
   subst e1; subst e2
   refine .inr ⟨yZ (World.grownBy_alloc w _ none) rfl rfl rfl rfl, fun k hk => ?_⟩
   have : w.heap.size = k := by simpa [Value.ownBlock] using hk
   omega
  ·by_cases hroom : n + m ≤ gc
   ·obtain ⟨w2, hr2, _⟩ := run_append_fits (P := P) w base t ty e i sz E.ht hi hsz g n gc xs hown ⟨b, off, none⟩ m cap news hnl hnews h1 hroom
    rw [hr2] at hr
    injection hr with e1 e2
    subst e1
    exact .inl rfl
   ·have holds : ∀ j u, xs[j]? = some u → w.cell? ((⟨g, 0, none⟩ : Addr).add j) = some u := hown.cells (g := g) rfl
    have hlo : xs.length = n * i.size := by rw [hsz]; exact hown.1
    have hr2 := run_append_grow (P := P) w t ty e i z E.ht hi hz ⟨g, 0, none⟩ n gc xs hlo holds ⟨b, off, none⟩ m cap news (by rw [hnl, hsz]) hnews (by omega) (by omega) (growslice_fits (by omega) (by rw [hby]; exact hbytes))
    rw [hr2] at hr
    injection hr with e1 e2
    subst e1; subst e2
    refine .inr ⟨yZ (World.grownBy_alloc w _ none) rfl rfl rfl rfl, fun k hk => ?_⟩
    have : w.heap.size = k := by simpa [Value.ownBlock] using hk
    omega
section
variable {w0 W W' : World} {F : Nat → Prop} {rs : List RowS} {ls ls' : List (Nat × Obj)} {ps : List (Nat × TypeId × List Value)}
end
def xP (a0 : Act) (l : List (Nat × Value)) : Act := l.foldl (fun a p => a.put (some p.1) p.2) a0
section
variable {P : Program} {md : Region.Mode} {ops : Array Oper} {Q : Exit → Act → World → Prop} {G : Array Bool → World → Prop}
theorem wpAnyG_named {fuel : Nat} {listed : Array Bool} {a : Act} {w : World} (h : ∀ Wp : Nat → Array Bool → Act → World → Prop, Wp = wN P md ops Q G → ∀ a0, a0 = a → Wp fuel listed a0 w) : wN P md ops Q G fuel listed a w := h _ rfl _ rfl
end
section
variable {P : Program} {md : Region.Mode} {ops : Array Oper} {Q : Exit → Act → World → Prop} {G : Array Bool → World → Prop}
theorem lG (I : Array Bool → Act → World → Prop) (hG : ∀ l a w, I l a w → G l w)
  (hstep : ∀ i o, ops[i]? = some o → ∀ listed a w, I listed a w → listed.getD i true = false → (∀ e ∈ o.after, Region.binds md e = true → listed.getD e.on false = true) →
   ∀ K' : Act → World → Prop, Shut (∀ a w, I (listed.setIfInBounds i true) a w → K' a w) → if Region.wanted o (yielded ops a.tmps) = true then Oper.wp P o a w K' Q else K' (a.put o.dst undef) w)
  (hend : ∀ listed a w, I listed a w → Region.ready md ops listed = [] → Q .normal a w) :
  ∀ (fuel : Nat) (listed : Array Bool) (a : Act) (w : World), undone ops listed ≤ fuel → I listed a w → wN P md ops Q G fuel listed a w
 | 0, listed, a, w, hf, hI => by
  have hr : Region.ready md ops listed = [] := by
   rcases h : Region.ready md ops listed with _ | ⟨i, l⟩
   ·rfl
   ·have := lH (md := md) (ops := ops) (listed := listed) (i := i) (by rw [h]; exact List.mem_cons_self)
    omega
  exact ⟨hr, hend _ _ _ hI hr⟩
 | fuel + 1, listed, a, w, hf, hI => by
  refine ⟨hend _ _ _ hI, fun i hi => ?_⟩
  obtain ⟨h0, o, ho, hall⟩ := mem_ready.1 hi
  have hu := lH hi
  exact wpOp_mono (fun a' w' h => ⟨hG _ _ _ h, lG I hG hstep hend fuel _ a' w' (by omega) h⟩) (wpOp_step (K := I (listed.setIfInBounds i true)) ho (fun K' hK => hstep i o ho _ _ _ hI h0 hall K' hK))
def StepOk (P : Program) (md : Region.Mode) (ops : Array Oper) (Q : Exit → Act → World → Prop) (I : Array Bool → Act → World → Prop) (i : Nat) (o : Oper) : Prop :=
 ∀ listed a w, I listed a w → listed.getD i true = false → (∀ e ∈ o.after, Region.binds md e = true → listed.getD e.on false = true) →
  ∀ K' : Act → World → Prop, Shut (∀ a w, I (listed.setIfInBounds i true) a w → K' a w) → if Region.wanted o (yielded ops a.tmps) = true then Oper.wp P o a w K' Q else K' (a.put o.dst undef) w
def lD (S : Nat → Oper → Prop) : Nat → List Oper → Prop
 | _, [] => True
 | k, o :: l => S k o ∧ lD S (k + 1) l
theorem lD.get {S : Nat → Oper → Prop} : ∀ {k : Nat} {l : List Oper}, lD S k l → ∀ i o, l[i]? = some o → S (k + i) o
 | _, [], _, i, o, h => by simp at h
 | k, x :: l, h, 0, o, e => by
  have e : x = o := by simpa using e
  subst e; exact h.1
 | k, x :: l, h, i + 1, o, e => by
  have := lD.get h.2 i o (by simpa using e)
  rwa [Nat.add_right_comm, Nat.add_assoc] at this
theorem allOps {S : Nat → Oper → Prop} {ops : Array Oper} (h : lD S 0 ops.toList) : ∀ i o, ops[i]? = some o → S i o := fun i o ho => by
 have := h.get i o (by simpa using ho)
 rwa [Nat.zero_add] at this
def early (ops : Array Oper) : Bool := (List.range ops.size).all fun i => match ops[i]? with | some o => o.after.all fun e => decide (e.on < i) | none => true
theorem all_listed {listed : Array Bool} (hw : early ops = true) (hr : Region.ready md ops listed = []) : ∀ j, j < ops.size → listed.getD j true = true := by
 intro j
 induction j using Nat.strongRecOn with
 | ind j ih =>
  intro hj
  rcases hl : listed.getD j true with _ | _
  ·exfalso
   have hjs : j < listed.size := by
    rcases Nat.lt_or_ge j listed.size with h | h
    ·exact h
    ·simp [h] at hl
   have hm : j ∈ Region.ready md ops listed := by
    refine mem_ready.2 ⟨hl, ops[j], Array.getElem?_eq_getElem hj, fun e he _ => ?_⟩
    have h1 := List.all_eq_true.1 hw j (List.mem_range.2 hj)
    rw [Array.getElem?_eq_getElem hj] at h1
    have h2 : e.on < j := by
     have := Array.all_eq_true'.1 h1 e he
     simpa using this
    have h3 := ih e.on h2 (by omega)
    have h4 : e.on < listed.size := by omega
    simpa [h4] using h3
   rw [hr] at hm
   cases hm
  ·rfl
theorem wpAnyG_steps (I : Array Bool → Act → World → Prop) (hG : ∀ l a w, I l a w → G l w) (hstep : ∀ (ops' : Array Oper) (Q' : Exit → Act → World → Prop), lD (StepOk P md ops' Q' I) 0 ops.toList) (hw : early ops = true)
  (hend : ∀ listed a w, I listed a w → (∀ j, j < ops.size → listed.getD j true = true) → Q .normal a w) {fuel : Nat} {listed : Array Bool} {a : Act} {w : World} (hf : undone ops listed ≤ fuel) (hI : I listed a w) : wN P md ops Q G fuel listed a w :=
 lG I hG (allOps (hstep ops Q)) (fun l a w h hr => hend l a w h (all_listed hw hr)) fuel listed a w hf hI
end
theorem vC {l : Array Bool} {j : Nat} (h : l.getD j false = true) : l.getD j true = true := by
 rcases Nat.lt_or_ge j l.size with h' | h'
 ·simp [h'] at h ⊢; exact h
 ·simp [h'] at h
theorem zS {l : Array Bool} {i j : Nat} (h : l.getD j true = true) : (l.setIfInBounds i true).getD j true = true := by
 by_cases e : i = j
 ·subst e; exact wH
 ·rwa [Go.getD_set_ne true e]
theorem zF {l : Array Bool} {i j : Nat} (hne : i ≠ j) (h : (l.setIfInBounds i true).getD j true = true) : l.getD j true = true := by rwa [Go.getD_set_ne true hne] at h
theorem yE {l : Array Bool} {i j : Nat} (h : (l.setIfInBounds i true).getD j true = false) : l.getD j true = false := by
 by_cases e : i = j
 ·subst e; rw [wH] at h; cases h
 ·rwa [Go.getD_set_ne true e] at h
theorem pG {l : Array Bool} {i : Nat} {p : Prop} (h : (l.setIfInBounds i true).getD i true = false) : p := by rw [wH] at h; cases h
section
variable {w0 W W' : World} {F : Nat → Prop} {rs : List RowS} {ls : List (Nat × Obj)}
theorem Many.far (h : Many w0 F W rs ls []) {r : Nat} (hg : W.grownBy W' (some r)) (hF : F r) (hlt : r < w0.heap.size) (hne : ∀ (j : Nat) (s : RowS), rs[j]? = some s → s.v.ownBlock ≠ some r) : Many w0 F W' rs ls [] where
 own := fun j s hs => (h.own j s hs).kept hg (.inr (hne j s hs))
 mine := h.mine
 apart := h.apart
 lit := fun p hp => ⟨zA (h.lit p hp).1 hg (fun e => by have e := Option.some.inj e; have := (h.lit p hp).2.2; omega), (h.lit p hp).2⟩
 pre := fun p hp => by cases hp
 but := h.but.step hg (fun k e => .inl (by have e := Option.some.inj e; subst e; exact hF))
end
theorem lI {P : Program} {W : World} {o : Oper} {a : Act} {K : Act → World → Prop} {Q : Exit → Act → World → Prop} {R c0 : Prop} [Decidable c0] (hc0 : c0) (s x : Operand) (t : TypeId)
  (ho : o.op = .call { callee := .builtin .append, args := #[s, x], argTypes := #[t, t] }) {e : TypeId} {z : Value} {bytes : Nat} (E : ElemOk P t e z bytes) (j : Nat) (g c : Nat) (hx : a.eval x = .slice (some ⟨g, 0, none⟩) 1 c)
  {w0 : World} {F : Nat → Prop} {rs : List RowS} {ls : List (Nat × Obj)} {ps : List (Nat × TypeId × List Value)} (h : Many w0 F W rs ls ps)
  {r : RowS} (hr : rs[j]? = some r) (he : r.e = e) (hsz : r.sz = 1) (hs : a.eval s = r.v) (h63 : r.n + 1 ≤ maxLen) (hbytes : (r.n + 1) * bytes ≤ 140737488355328) (hbase : r.base ≤ w0.heap.size)
  {u : Value} {m : Nat × Nat} (hl : (g, Obj.cells #[u] e m) ∈ ls) (h1 : u.oneCell' = true)
  (hK : ∀ sa sc w', Many w0 F w' (rs.set j ⟨r.base, r.e, .slice sa (r.n + 1) sc, r.n + 1, r.xs ++ [u], r.sz⟩) ls ps → W.grownBy w' r.v.ownBlock → K (a.put o.dst (.slice sa (r.n + 1) sc)) w') : if c0 then Oper.wp P o a W K Q else R := by
 subst he
 rw [if_pos hc0]
 have hu : W.cell? ⟨g, 0, none⟩ = some u := by simpa using zK (h.lit _ hl).1 0 (by simp)
 obtain ⟨v', w', hrun, h2, h3, h4⟩ := sO (P := P) r.base t o.type E r.v r.n r.xs (by have := h.own j r hr; rwa [hsz] at this) g c u hu h1 h63 hbytes (Nat.le_trans hbase h.but.size)
 obtain ⟨sa, sc, rfl⟩ := tW h2
 unfold Oper.wp execOp
 simp only [ho, resolve, invoke, builtin, Sem.run_bind, Sem.run_pure, Result.andThen_ok, List.map_toArray, List.map_cons, List.map_nil, hs, hx, hrun]
 exact hK sa sc w' (h.append hr (by rw [hsz]; exact h2) h3 h4) h3
theorem oX {a0 : Act} : ∀ {l : List (Nat × Value)}, (∀ p ∈ l, p.2 = a0.tmps.getD p.1 undef) → xP a0 l = a0
 | [], _ => rfl
 | p :: l, h => by
  have h1 := h p List.mem_cons_self
  have hp : a0.put (some p.1) p.2 = a0 := by
   rw [h1]
   show Act.mk (a0.tmps.setIfInBounds p.1 (a0.tmps.getD p.1 undef)) a0.defers = a0
   have : a0.tmps.setIfInBounds p.1 (a0.tmps.getD p.1 undef) = a0.tmps := by
    apply Array.ext
    ·simp
    ·intro i h1 h2
     rw [Array.getElem_setIfInBounds]
     split
     ·rename_i e; subst e; simp [h2]
     ·rfl
   rw [this]
  show xP (a0.put (some p.1) p.2) l = a0
  rw [hp]
  exact oX fun q hq => h q (List.mem_cons_of_mem _ hq)
theorem Many.start {w : World} {F : Nat → Prop} {rs : List RowS} (hown : ∀ r ∈ rs, w.ownsRow r.base r.e r.sz r.v r.n r.xs) (hF : ∀ r ∈ rs, ∀ k, r.v.ownBlock = some k → F k) (hap : rs.Pairwise (fun r s => ∀ k, r.v.ownBlock = some k → s.v.ownBlock ≠ some k)) : Many w F w rs [] [] where
 own := fun j r hr => hown r (List.mem_of_getElem? hr)
 mine := fun j r hr k hk => .inl (hF r (List.mem_of_getElem? hr) k hk)
 apart := fun i j r s hij hr hs k hk hk2 => by
  obtain ⟨hi, hri⟩ := List.getElem?_eq_some_iff.1 hr
  obtain ⟨hj, hsj⟩ := List.getElem?_eq_some_iff.1 hs
  rcases Nat.lt_or_gt_of_ne hij with h | h
  ·have := List.pairwise_iff_getElem.1 hap i j hi hj h k
   rw [hri, hsj] at this
   exact this hk hk2
  ·have := List.pairwise_iff_getElem.1 hap j i hj hi h k
   rw [hri, hsj] at this
   exact this hk2 hk
 lit := fun p hp => by simp at hp
 pre := fun p hp => by simp at hp
 but := GrownBut.refl _ _
def rM : Code → Nat → Option (Array Oper)
 | .region i ops _, k => if i = k then some ops else none
 | .seq a b, k => match rM a k with
  | some o => some o
  | none => rM b k
 | .cond _ a b, k => match rM a k with
  | some o => some o
  | none => rM b k
 | .block _ b, k => rM b k
 | .loop b, k => rM b k
 | .scope b, k => rM b k
 | _, _ => none
def regionOps (f : Func) (k : Nat) : Array Oper := match f.body with
 | some b => (rM b k).getD #[]
 | none => #[]
end Go.Proofs.Ytgbfaggnnfoamaa
namespace Go.Proofs.Ytgbfaggnnfoamaa
open Go.RowKit Go.Maps
theorem kW : Keyed Try.prog 3 := int_keyed (q := .i64) (by kernel_rfl)
end Go.Proofs.Ytgbfaggnnfoamaa
