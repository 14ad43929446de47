/- Part 10 of the proof: Inv2, KeyI, Dfa0, MapNo, DfaAt, Access. -/
import Derived.Test.YtjfdomfendbhfaaQb9
import Derived.Maps.Own
import Derived.Maps.Views
import Derived.Maps.OwnSet
import Derived.Maps.OwnOps
import Derived.Deep.DeepCutAuto
import Derived.Deep.CutBlock
import Derived.Laws.Concat
set_option linter.unusedVariables false
set_option linter.unusedSimpArgs false
namespace Go.Proofs.Ytjfdomfendbhfaa
open Go.RowKit
section
variable {P : Program} {md : Region.Mode} {ops : Array Oper} {Q : Exit → Act → World → Prop} {G : Array Bool → World → Prop}
theorem wpAnyG_inv (I : Array Bool → Act → World → Prop) (hG : ∀ l a w, I l a w → G l w)
  (hstep : ∀ i o, ops[i]? = some o → ∀ listed a w, I listed a w → listed.getD i true = false → (∀ e ∈ o.after, Region.binds md e = true → listed.getD e.on false = true) →
   ∀ K' : Act → World → Prop, Shut (∀ a w, I (listed.setIfInBounds i true) a w → K' a w) → if Region.wanted o (yielded ops a.tmps) = true then Oper.wp P o a w K' Q else K' (a.put o.dst undef) w)
  (hend : ∀ listed a w, I listed a w → Region.ready md ops listed = [] → Q .normal a w) :
  ∀ (fuel : Nat) (listed : Array Bool) (a : Act) (w : World), undone ops listed ≤ fuel → I listed a w → vY P md ops Q G fuel listed a w
 | 0, listed, a, w, hf, hI => by
  have hr : Region.ready md ops listed = [] := by
   rcases h : Region.ready md ops listed with _ | ⟨i, l⟩
   ·rfl
   ·have := undone_set (md := md) (ops := ops) (listed := listed) (i := i) (by rw [h]; exact List.mem_cons_self)
    omega
  exact ⟨hr, hend _ _ _ hI hr⟩
 | fuel + 1, listed, a, w, hf, hI => by
  refine ⟨hend _ _ _ hI, fun i hi => ?_⟩
  obtain ⟨h0, o, ho, hall⟩ := mem_ready.1 hi
  have hu := undone_set hi
  exact wpOp_mono (fun a' w' h => ⟨hG _ _ _ h, wpAnyG_inv I hG hstep hend fuel _ a' w' (by omega) h⟩) (wpOp_step (K := I (listed.setIfInBounds i true)) ho (fun K' hK => hstep i o ho _ _ _ hI h0 hall K' hK))
def StepOk (P : Program) (md : Region.Mode) (ops : Array Oper) (Q : Exit → Act → World → Prop) (I : Array Bool → Act → World → Prop) (i : Nat) (o : Oper) : Prop :=
 ∀ listed a w, I listed a w → listed.getD i true = false → (∀ e ∈ o.after, Region.binds md e = true → listed.getD e.on false = true) →
  ∀ K' : Act → World → Prop, Shut (∀ a w, I (listed.setIfInBounds i true) a w → K' a w) → if Region.wanted o (yielded ops a.tmps) = true then Oper.wp P o a w K' Q else K' (a.put o.dst undef) w
def AllOps (S : Nat → Oper → Prop) : Nat → List Oper → Prop
 | _, [] => True
 | k, o :: l => S k o ∧ AllOps S (k + 1) l
theorem AllOps.get {S : Nat → Oper → Prop} : ∀ {k : Nat} {l : List Oper}, AllOps S k l → ∀ i o, l[i]? = some o → S (k + i) o
 | _, [], _, i, o, h => by simp at h
 | k, x :: l, h, 0, o, e => by
  have e : x = o := by simpa using e
  subst e; exact h.1
 | k, x :: l, h, i + 1, o, e => by
  have := AllOps.get h.2 i o (by simpa using e)
  rwa [Nat.add_right_comm, Nat.add_assoc] at this
theorem allOps {S : Nat → Oper → Prop} {ops : Array Oper} (h : AllOps S 0 ops.toList) : ∀ i o, ops[i]? = some o → S i o := fun i o ho => by
 have := h.get i o (by simpa using ho)
 rwa [Nat.zero_add] at this
def early (ops : Array Oper) : Bool := (List.range ops.size).all fun i => match ops[i]? with | some o => o.after.all fun e => decide (e.on < i) | none => true
theorem all_listed {listed : Array Bool} (hw : early ops = true) (hr : Region.ready md ops listed = []) : ∀ j, j < ops.size → listed.getD j true = true := by
 intro j
 induction j using Nat.strongRecOn with
 | ind j ih =>
  intro hj
  rcases hl : listed.getD j true with _ | _
  ·exfalso
   have hjs : j < listed.size := by
    rcases Nat.lt_or_ge j listed.size with h | h
    ·exact h
    ·simp [h] at hl
   have hm : j ∈ Region.ready md ops listed := by
    refine mem_ready.2 ⟨hl, ops[j], Array.getElem?_eq_getElem hj, fun e he _ => ?_⟩
    have h1 := List.all_eq_true.1 hw j (List.mem_range.2 hj)
    rw [Array.getElem?_eq_getElem hj] at h1
    have h2 : e.on < j := by
     have := Array.all_eq_true'.1 h1 e he
     simpa using this
    have h3 := ih e.on h2 (by omega)
    have h4 : e.on < listed.size := by omega
    simpa [h4] using h3
   rw [hr] at hm
   cases hm
  ·rfl
theorem wpAnyG_steps (I : Array Bool → Act → World → Prop) (hG : ∀ l a w, I l a w → G l w) (hstep : ∀ (ops' : Array Oper) (Q' : Exit → Act → World → Prop), AllOps (StepOk P md ops' Q' I) 0 ops.toList) (hw : early ops = true)
  (hend : ∀ listed a w, I listed a w → (∀ j, j < ops.size → listed.getD j true = true) → Q .normal a w) {fuel : Nat} {listed : Array Bool} {a : Act} {w : World} (hf : undone ops listed ≤ fuel) (hI : I listed a w) : vY P md ops Q G fuel listed a w :=
 wpAnyG_inv I hG (allOps (hstep ops Q)) (fun l a w h hr => hend l a w h (all_listed hw hr)) fuel listed a w hf hI
end
theorem yV {l : Array Bool} {j : Nat} (h : l.getD j false = true) : l.getD j true = true := by
 rcases Nat.lt_or_ge j l.size with h' | h'
 ·simp [h'] at h ⊢; exact h
 ·simp [h'] at h
theorem zH {l : Array Bool} {i j : Nat} (h : l.getD j true = true) : (l.setIfInBounds i true).getD j true = true := by
 by_cases e : i = j
 ·subst e; exact wW
 ·rwa [Go.getD_set_ne true e]
theorem zC {l : Array Bool} {i j : Nat} (hne : i ≠ j) (h : (l.setIfInBounds i true).getD j true = true) : l.getD j true = true := by rwa [Go.getD_set_ne true hne] at h
theorem zM {l : Array Bool} {i j : Nat} (h : (l.setIfInBounds i true).getD j true = false) : l.getD j true = false := by
 by_cases e : i = j
 ·subst e; rw [wW] at h; cases h
 ·rwa [Go.getD_set_ne true e] at h
theorem uG {l : Array Bool} {i : Nat} {p : Prop} (h : (l.setIfInBounds i true).getD i true = false) : p := by rw [wW] at h; cases h
section
variable {w0 W W' : World} {F : Nat → Prop} {rs : List RowS} {ls : List (Nat × Obj)}
theorem Many.far (h : Many w0 F W rs ls []) {r : Nat} (hg : W.grownBy W' (some r)) (hF : F r) (hlt : r < w0.heap.size) (hne : ∀ (j : Nat) (s : RowS), rs[j]? = some s → s.v.ownBlock ≠ some r) : Many w0 F W' rs ls [] where
 own := fun j s hs => (h.own j s hs).kept hg (.inr (hne j s hs))
 mine := h.mine
 apart := h.apart
 lit := fun p hp => ⟨zB (h.lit p hp).1 hg (fun e => by have e := Option.some.inj e; have := (h.lit p hp).2.2; omega), (h.lit p hp).2⟩
 pre := fun p hp => by cases hp
 but := h.but.step hg (fun k e => .inl (by have e := Option.some.inj e; subst e; exact hF))
theorem Many.make (h : Many w0 F W rs ls []) {j base sz : Nat} {e : TypeId} {cs : List Value} {n : Nat} (hr : rs[j]? = some ⟨base, e, .slice none 0 0, 0, [], sz⟩) (hb : base ≤ w0.heap.size) (hl : cs.length = n * sz) (hm : n ≤ maxLen) :
  Many w0 F (W.alloc (.cells cs.toArray e)) (rs.set j ⟨base, e, .slice (some ⟨W.heap.size, 0, none⟩) n n, n, cs, sz⟩) ls [] := by
 have hg := World.grownBy_alloc W (.cells cs.toArray e) none
 have := h.append (W' := W.alloc (.cells cs.toArray e)) (j := j) hr (v' := .slice (some ⟨W.heap.size, 0, none⟩) n n) (n' := n) (us := cs) (by
  have h9 := heap_alloc_new W (.cells cs.toArray e)
  exact ⟨by simpa using hl, .inr ⟨W.heap.size, n, cs.toArray, rfl, Nat.le_trans hb h.but.size, h9, Nat.le_refl _, hm, by simp [hl], by simp [← hl]⟩⟩) hg (.inr ⟨hg, fun k hk => by
  have : W.heap.size = k := by simpa [Value.ownBlock] using hk
  omega⟩)
 simpa using this
end
theorem Many.not_type {w0 W : World} {F : Nat → Prop} {rs : List RowS} {ls : List (Nat × Obj)} {ps : List (Nat × TypeId × List Value)} (h : Many w0 F W rs ls ps) {r e' : Nat} {c : Array Value} {m : Nat × Nat} (hr : W.heap[r]? = some (.cells c e' m)) (hty : ∀ s ∈ rs, s.e ≠ e') : ∀ (j : Nat) (s : RowS), rs[j]? = some s → s.v.ownBlock ≠ some r :=
 fun j s hs => zS (h.own j s hs) hr (hty s (List.mem_of_getElem? hs))
theorem step_many' {P : Program} {W : World} {o : Oper} {a : Act} {K : Act → World → Prop} {Q : Exit → Act → World → Prop} {R c0 : Prop} [Decidable c0] (hc0 : c0) (s x : Operand) (t : TypeId)
  (ho : o.op = .call { callee := .builtin .append, args := #[s, x], argTypes := #[t, t] }) {e : TypeId} {z : Value} {bytes : Nat} (E : ElemOk P t e z bytes) (j : Nat) (g c : Nat) (hx : a.eval x = .slice (some ⟨g, 0, none⟩) 1 c)
  {w0 : World} {F : Nat → Prop} {rs : List RowS} {ls : List (Nat × Obj)} {ps : List (Nat × TypeId × List Value)} (h : Many w0 F W rs ls ps)
  {r : RowS} (hr : rs[j]? = some r) (he : r.e = e) (hsz : r.sz = 1) (hs : a.eval s = r.v) (h63 : r.n + 1 ≤ maxLen) (hbytes : (r.n + 1) * bytes ≤ 140737488355328) (hbase : r.base ≤ w0.heap.size)
  {u : Value} {m : Nat × Nat} (hl : (g, Obj.cells #[u] e m) ∈ ls) (h1 : u.oneCell' = true)
  (hK : ∀ sa sc w', Many w0 F w' (rs.set j ⟨r.base, r.e, .slice sa (r.n + 1) sc, r.n + 1, r.xs ++ [u], r.sz⟩) ls ps → W.grownBy w' r.v.ownBlock → K (a.put o.dst (.slice sa (r.n + 1) sc)) w') : if c0 then Oper.wp P o a W K Q else R := by
 subst he
 rw [if_pos hc0]
 have hu : W.cell? ⟨g, 0, none⟩ = some u := by simpa using zO (h.lit _ hl).1 0 (by simp)
 obtain ⟨v', w', hrun, h2, h3, h4⟩ := run_append_moved (P := P) r.base t o.type E r.v r.n r.xs (by have := h.own j r hr; rwa [hsz] at this) g c u hu h1 h63 hbytes (Nat.le_trans hbase h.but.size)
 obtain ⟨sa, sc, rfl⟩ := sD h2
 unfold Oper.wp execOp
 simp only [ho, resolve, invoke, builtin, Sem.run_bind, Sem.run_pure, Result.andThen_ok, List.map_toArray, List.map_cons, List.map_nil, hs, hx, hrun]
 exact hK sa sc w' (h.append hr (by rw [hsz]; exact h2) h3 h4) h3
theorem lJ {a0 : Act} : ∀ {l : List (Nat × Value)}, (∀ p ∈ l, p.2 = a0.tmps.getD p.1 undef) → xH a0 l = a0
 | [], _ => rfl
 | p :: l, h => by
  have h1 := h p List.mem_cons_self
  have hp : a0.put (some p.1) p.2 = a0 := by
   rw [h1]
   show Act.mk (a0.tmps.setIfInBounds p.1 (a0.tmps.getD p.1 undef)) a0.defers = a0
   have : a0.tmps.setIfInBounds p.1 (a0.tmps.getD p.1 undef) = a0.tmps := by
    apply Array.ext
    ·simp
    ·intro i h1 h2
     rw [Array.getElem_setIfInBounds]
     split
     ·rename_i e; subst e; simp [h2]
     ·rfl
   rw [this]
  show xH (a0.put (some p.1) p.2) l = a0
  rw [hp]
  exact lJ fun q hq => h q (List.mem_cons_of_mem _ hq)
theorem Many.start {w : World} {F : Nat → Prop} {rs : List RowS} (hown : ∀ r ∈ rs, w.ownsRow r.base r.e r.sz r.v r.n r.xs) (hF : ∀ r ∈ rs, ∀ k, r.v.ownBlock = some k → F k) (hap : rs.Pairwise (fun r s => ∀ k, r.v.ownBlock = some k → s.v.ownBlock ≠ some k)) : Many w F w rs [] [] where
 own := fun j r hr => hown r (List.mem_of_getElem? hr)
 mine := fun j r hr k hk => .inl (hF r (List.mem_of_getElem? hr) k hk)
 apart := fun i j r s hij hr hs k hk hk2 => by
  obtain ⟨hi, hri⟩ := List.getElem?_eq_some_iff.1 hr
  obtain ⟨hj, hsj⟩ := List.getElem?_eq_some_iff.1 hs
  rcases Nat.lt_or_gt_of_ne hij with h | h
  ·have := List.pairwise_iff_getElem.1 hap i j hi hj h k
   rw [hri, hsj] at this
   exact this hk hk2
  ·have := List.pairwise_iff_getElem.1 hap j i hj hi h k
   rw [hri, hsj] at this
   exact this hk2 hk
 lit := fun p hp => by simp at hp
 pre := fun p hp => by simp at hp
 but := GrownBut.refl _ _
theorem own_apart {w : World} {base base' e e' sz sz' n n' : Nat} {v v' : Value} {xs xs' : List Value} (h : w.ownsRow base e sz v n xs) (h' : w.ownsRow base' e' sz' v' n' xs') (hne : e ≠ e') : ∀ k, v.ownBlock = some k → v'.ownBlock ≠ some k := by
 intro k hk e2
 rcases h'.2 with ⟨hv, _⟩ | ⟨g, cap, cur, hv, _, hg, _⟩
 ·rw [hv] at e2; simp [Value.ownBlock] at e2
 ·rw [hv] at e2
  have : g = k := by simpa [Value.ownBlock] using e2
  subst this
  exact zS h hg hne hk
def pS : Code → Nat → Option (Array Oper)
 | .region i ops _, k => if i = k then some ops else none
 | .seq a b, k => match pS a k with
  | some o => some o
  | none => pS b k
 | .cond _ a b, k => match pS a k with
  | some o => some o
  | none => pS b k
 | .block _ b, k => pS b k
 | .loop b, k => pS b k
 | .scope b, k => pS b k
 | _, _ => none
def regionOps (f : Func) (k : Nat) : Array Oper := match f.body with
 | some b => (pS b k).getD #[]
 | none => #[]
end Go.Proofs.Ytjfdomfendbhfaa
namespace Go.Proofs.Ytjfdomfendbhfaa
open Go.RowKit Go.Maps
theorem key_int : Keyed Try.prog 3 := int_keyed (q := .i64) (by kernel_rfl)
end Go.Proofs.Ytjfdomfendbhfaa
namespace Go.Proofs.Ytjfdomfendbhfaa
open Go.RowKit
def sC (B : Nat) (w : World) (v : Value) (d : DfaV) : Prop := ∃ fv nv, v = .agg #[.int .i64 d.letters, .int .i64 d.start, fv, nv] ∧ Row B w fv (bls d.final) ∧ Mat B w nv d.next
theorem sC.kept {B : Nat} {w w' : World} {v : Value} {d : DfaV} {row : Option Nat} (h : sC B w v d) (hg : w.grownBy w' row) (hr : ∀ k, row = some k → B ≤ k) : sC B w' v d := by
 obtain ⟨fv, nv, h1, h2, h3⟩ := h
 exact ⟨fv, nv, h1, h2.kept hg hr, h3.kept hg hr⟩
theorem sC.mono {B B' : Nat} {w : World} {v : Value} {d : DfaV} (h : sC B w v d) (hB : B ≤ B') : sC B' w v d := by
 obtain ⟨fv, nv, h1, h2, h3⟩ := h
 exact ⟨fv, nv, h1, h2.mono hB, h3.mono hB⟩
theorem validD_letters {d : DfaV} (h : d.letters < 1 ∨ 6 < d.letters) : wK d = 1 := by rw [wK, if_pos h]
theorem validD_big {d : DfaV} (h : ¬ (d.letters < 1 ∨ 6 < d.letters)) (h2 : 512 < d.final.length) : wK d = 3 := by rw [wK, if_neg h, if_pos h2]
theorem validD_shape {d : DfaV} (h : ¬ (d.letters < 1 ∨ 6 < d.letters)) (h2 : ¬ 512 < d.final.length) (h3 : d.final.length = 0 ∨ d.next.length ≠ d.final.length ∨ d.start < 0 ∨ d.final.length ≤ d.start) : wK d = 4 := by rw [wK, if_neg h, if_neg h2, if_pos h3]
theorem mM {d : DfaV} (h : ¬ (d.letters < 1 ∨ 6 < d.letters)) (h2 : ¬ 512 < d.final.length) (h3 : ¬ (d.final.length = 0 ∨ d.next.length ≠ d.final.length ∨ d.start < 0 ∨ d.final.length ≤ d.start)) {q : Nat} (hq : q < d.next.length) (hb : rowD d.letters d.final.length (d.next.getD q []) = false) : wK d = 4 := by
 rw [wK, if_neg h, if_neg h2, if_neg h3, if_neg]
 intro ha
 have := List.all_eq_true.1 ha d.next[q] (List.getElem_mem hq)
 rw [zI hq, this] at hb; cases hb
theorem validD_ok {d : DfaV} (h : ¬ (d.letters < 1 ∨ 6 < d.letters)) (h2 : ¬ 512 < d.final.length) (h3 : ¬ (d.final.length = 0 ∨ d.next.length ≠ d.final.length ∨ d.start < 0 ∨ d.final.length ≤ d.start)) (ha : ∀ q, q < d.next.length → rowD d.letters d.final.length (d.next.getD q []) = true) : wK d = 0 := by
 rw [wK, if_neg h, if_neg h2, if_neg h3, if_pos]
 rw [List.all_eq_true]
 intro r hr
 obtain ⟨q, hq, rfl⟩ := List.getElem_of_mem hr
 have := ha q hq
 rwa [zI hq] at this
theorem rowD_len {k : Int} {n : Nat} {r : List Int} (h : (r.length : Int) ≠ k) : rowD k n r = false := by simp [rowD, h]
theorem rowD_bad {k : Int} {n : Nat} {r : List Int} {y : Nat} (hy : y < r.length) (h : r.getD y 0 < 0 ∨ n ≤ r.getD y 0) : rowD k n r = false := by
 rw [← Bool.not_eq_true]
 intro hr
 have := (pX.1 hr).2 y hy
 omega
def DRows (d : DfaV) (k : Nat) : Prop := ∀ x, x < k → rowD d.letters d.final.length (d.next.getD x []) = true
end Go.Proofs.Ytjfdomfendbhfaa
namespace Go.Proofs.Ytjfdomfendbhfaa
open Go.RowKit Go.Maps
theorem uY : Try.prog.underlying 171 = some (.map 3 3) := by kernel_rfl
theorem tM : Try.prog.underlying 3 = some (.int .i64) := by kernel_rfl
theorem zero_int (w : World) : (zeroValue 3).run Try.prog w = .ok (.int .i64 0) w := by kernel_rfl
def Mid (x : Int) : Prop := -4611686018427387904 < x ∧ x < 4611686018427387904
theorem mid_wf {x : Int} (hx : Mid x) : (Lit.int .i64 x).wf = true := by
 have h1 : IntKind.i64.min = -9223372036854775808 := rfl
 have h2 : IntKind.i64.max = 9223372036854775807 := rfl
 obtain ⟨h3, h4⟩ := hx
 simp [Lit.wf]; omega
theorem mid_key {x : Int} (hx : Mid x) : keyOf Try.prog 3 (.int .i64 x) = some (.int .i64 x) := keyOf_int_mk (q := .i64) (by kernel_rfl) (mid_wf hx)
def rW (w : World) (b n : Nat) (l : List Int) : Prop :=
 ∃ D : DataW Unit, w.ownsMap Try.prog 3 (plainElem Try.prog 3) b n D ∧ size D = l.length ∧
  ∀ x : Int, Mid x → has D (.int .i64 x) = decide (x ∈ l) ∧ D.atKey (.int .i64 x) (.lit (.int .i64 0)) = .lit (.int .i64 (if x ∈ l then ((l.idxOf x : Nat) : Int) else 0))
theorem rW.made (w : World) : rW (w.alloc (.map #[] 0)) w.heap.size 0 [] := by
 refine ⟨.map [], World.ownsMap_made _ _ _ _, rfl, fun x _ => ⟨by simp [has_eq], ?_⟩⟩
 rw [WideAt.atKey_none _ (by simp)]
 simp
theorem rW.kept {w w' : World} {b n : Nat} {l : List Int} {row : Option Nat} (h : rW w b n l) (hg : w.grownBy w' row) (hne : row ≠ some b) : rW w' b n l := by
 obtain ⟨D, h1, h2, h3⟩ := h
 exact ⟨D, h1.kept hg (fun e => hne e.symm), h2, h3⟩
theorem rW.mono {w : World} {b n n' : Nat} {l : List Int} (h : rW w b n l) (hn : n ≤ n') : rW w b n' l := by
 obtain ⟨D, h1, h2, h3⟩ := h
 exact ⟨D, h1.mono hn, h2, h3⟩
theorem rW.lt {w : World} {b n : Nat} {l : List Int} (h : rW w b n l) : b < w.heap.size := by
 obtain ⟨D, h1, _⟩ := h
 exact h1.lt
theorem rW.lookup {w : World} {b n : Nat} {l : List Int} (h : rW w b n l) {x : Int} (hx : Mid x) : (Instr.lookup 171 (.map (some b)) (.int .i64 x) true).run Try.prog w = .ok (.tuple #[.int .i64 (if x ∈ l then ((l.idxOf x : Nat) : Int) else 0), .bool (decide (x ∈ l))]) w := by
 obtain ⟨D, h1, h2, h3⟩ := h
 obtain ⟨v, ps, hrun, hv⟩ := h1.look_ok key_int uY (zero_int w) (plainElem_int tM (by decide)) (mid_key hx)
 obtain ⟨c, rfl, hc, _⟩ := plainElem_int_inv tM hv
 obtain ⟨e1, e2⟩ := h3 x hx
 have e3 := congrArg Prod.fst hc
 simp only [e2] at e3
 rw [hrun, e1]
 have e4 : (if x ∈ l then ((l.idxOf x : Nat) : Int) else 0) = c := by
  simp only [Lit.int.injEq, DataW.lit.injEq, true_and] at e3
  exact e3
 rw [e4]
theorem rW.len {w : World} {b n : Nat} {l : List Int} (h : rW w b n l) : (Builtin.len_ #[171] 3 #[.map (some b)]).run Try.prog w = .ok (.int .i64 (l.length : Nat)) w := by
 obtain ⟨D, h1, h2, h3⟩ := h
 have hrun := h1.len uY 3
 rw [h2] at hrun
 exact hrun
theorem step_putNo {w : World} {ops : Array Oper} {rest : List Oper} {o : Oper} {a : Act} {Q : Exit → Act → World → Prop} (hg : o.guard = none) (m x v : Operand) (hop : o.op = Op.mapUpdate 171 m x v)
  (b n : Nat) (l : List Int) (z : Int) (hm : a.eval m = .map (some b)) (hx : a.eval x = .int .i64 z) (hv : a.eval v = .int .i64 (l.length : Nat)) (h : rW w b n l) (hn : n < maxLen) (hz : Mid z) (hnew : z ∉ l) (hll : l.length < 4611686018427387904)
  (hK : ∀ w', rW w' b (n + 1) (l ++ [z]) → w.grownBy w' (some b) → wpList Try.prog ops Q rest (a.put o.dst undef) w') :
  wpList Try.prog ops Q (o :: rest) a w := by
 obtain ⟨D, h1, h2, h3⟩ := h
 obtain ⟨w', hrun, hown, hgr⟩ := h1.update key_int uY hn (mid_key hz) (plainElem_int tM (mid_wf (x := ((l.length : Nat) : Int)) ⟨by omega, by omega⟩))
 have hkz : WideAt.IsKeyLit (.int .i64 z) := by simp [WideAt.IsKeyLit]
 refine wpList_plain hg fun K' hK' => ?_
 unfold Oper.wp
 simp [execOp, hop, hm, hx, hv, hrun, Result.andThen]
 refine hK' _ _ (hK w' ⟨_, hown, ?_, fun y hy => ?_⟩ hgr)
 ·rw [size_put (h1.tidy key_int), (h3 z hz).1, decide_eq_false hnew, h2]; simp
 ·by_cases e : y = z
  ·subst e
   refine ⟨by rw [has_put_same h1.isMap hkz]; simp, ?_⟩
   rw [atKey_put_same h1.isMap hkz, if_pos (by simp), List.idxOf_append, if_neg hnew]
   simp
  ·have hne : (Lit.int .i64 y) ≠ Lit.int .i64 z := by intro h; injection h with _ h; exact e h
   obtain ⟨e1, e2⟩ := h3 y hy
   refine ⟨by rw [has_put_other hne, e1]; simp [e], ?_⟩
   rw [atKey_put_other hne, e2]
   by_cases hyl : y ∈ l
   ·rw [if_pos hyl, if_pos (by simp [hyl]), List.idxOf_append, if_pos hyl]
   ·rw [if_neg hyl, if_neg (by simp [hyl, e])]
def qA (l : List Nat) (k : Nat) : List Nat := l.take k ++ List.replicate (l.length - k) 0
theorem fillTo_zero (l : List Nat) : qA l 0 = List.replicate l.length 0 := by simp [qA]
theorem fillTo_end (l : List Nat) : qA l l.length = l := by simp [qA]
theorem fillTo_length {l : List Nat} {k : Nat} (h : k ≤ l.length) : (qA l k).length = l.length := by simp [qA]; omega
theorem fillTo_set {l : List Nat} {k : Nat} (h : k < l.length) : (qA l k).set k (l.getD k 0) = qA l (k + 1) := by
 have hl : (l.take k).length = k := by simp; omega
 unfold qA
 rw [List.set_append_right _ _ (by omega), hl, Nat.sub_self, yH (d := 0) h, show l.length - k = (l.length - (k + 1)) + 1 by omega, List.replicate_succ, List.set_cons_zero, List.append_assoc]
 rfl
def NumOk (w : World) (p : List Nat) (e : Ending) (w' : World) : Prop :=
 ∃ g, e = .returned (.slice (some ⟨g, 0, none⟩) p.length p.length) ∧ w.heap.size ≤ g ∧ Arr w' g 3 (nats p) ∧ w.grownBy w' none
end Go.Proofs.Ytjfdomfendbhfaa
namespace Go.Proofs.Ytjfdomfendbhfaa
open Go.RowKit
structure DAt (B : Nat) (w : World) (d : DfaV) (n k fb fo fc b off cap : Nat) (RB RO RC : Nat → Nat) : Prop where
 ok : VD d n k
 flt : fb < B
 frow : vU w fb fo (bls d.final)
 fcap : n ≤ fc ∧ fc ≤ maxLen
 blt : b < B
 bltw : b < w.heap.size
 cap : n ≤ cap ∧ cap ≤ maxLen
 hd : ∀ q, q < n → w.cell? ⟨b, off + q, none⟩ = some (.slice (some ⟨RB q, RO q, none⟩) k (RC q))
 el : ∀ q a, q < n → a < k → w.cell? ⟨RB q, RO q + a, none⟩ = some (.int .i64 ((nx d q a : Nat) : Int))
 rlt : ∀ q, q < n → RB q < B ∧ RB q < w.heap.size
 rcap : ∀ q, q < n → k ≤ RC q ∧ RC q ≤ maxLen
theorem DAt.kept {B : Nat} {w w' : World} {d : DfaV} {n k fb fo fc b off cap : Nat} {RB RO RC : Nat → Nat} {row : Option Nat} (h : DAt B w d n k fb fo fc b off cap RB RO RC) (hg : w.grownBy w' row) (hr : ∀ k, row = some k → B ≤ k) : DAt B w' d n k fb fo fc b off cap RB RO RC where
 ok := h.ok
 flt := h.flt
 frow := h.frow.kept hg (fun e => by have := hr _ e; have := h.flt; omega)
 fcap := h.fcap
 blt := h.blt
 bltw := Nat.lt_of_lt_of_le h.bltw hg.size
 cap := h.cap
 hd := fun q hq => (World.cell?_of_block (hg.block b h.bltw (fun e => by have := hr b e.symm; have := h.blt; omega))).trans (h.hd q hq)
 el := fun q a hq ha => (World.cell?_of_block (hg.block (RB q) (h.rlt q hq).2 (fun e => by have := hr _ e.symm; have := (h.rlt q hq).1; omega))).trans (h.el q a hq ha)
 rlt := fun q hq => ⟨(h.rlt q hq).1, Nat.lt_of_lt_of_le (h.rlt q hq).2 hg.size⟩
 rcap := h.rcap
theorem DAt.fin {B : Nat} {w : World} {d : DfaV} {n k fb fo fc b off cap : Nat} {RB RO RC : Nat → Nat} (h : DAt B w d n k fb fo fc b off cap RB RO RC) {q : Nat} (hq : q < n) : w.cell? ⟨fb, fo + q, none⟩ = some (.bool (d.final.getD q false)) := by
 have hl := h.ok.hn
 have := vU.map h.frow q (by omega)
 rw [this, zI (by omega)]
def dAgg (k st fb fo fc b off cap n : Nat) : Value := .agg #[.int .i64 (k : Int), .int .i64 (st : Int), .slice (some ⟨fb, fo, none⟩) n fc, .slice (some ⟨b, off, none⟩) n cap]
theorem sC.at {B : Nat} {w : World} {v : Value} {d : DfaV} {n k : Nat} (h : sC B w v d) (hd : VD d n k) :
  ∃ fb fo fc b off cap RB RO RC, v = dAgg k (st0 d) fb fo fc b off cap n ∧ DAt B w d n k fb fo fc b off cap RB RO RC := by
 obtain ⟨fv, nv, rfl, hf, hn⟩ := h
 obtain ⟨fb, fo, fc, rfl, h1, h2, h3, h4⟩ := hf.some_ (by rw [xQ, hd.hn]; exact hd.n1)
 obtain ⟨b, off, cap, A, C, rfl, k1, k2, k3⟩ := hn.some_ (by rw [hd.nl]; exact hd.n1)
 have hr : ∀ q, ∃ rb ro, q < n → A q = some ⟨rb, ro, none⟩ ∧ rb < B ∧ k ≤ C q ∧ C q ≤ maxLen ∧ vU w rb ro (ints (d.next.getD q [])) := by
  intro q
  by_cases hq : q < n
  ·have hl := hd.row q hq
   obtain ⟨rb, ro, c, e, h4, h5, h6, h7⟩ := (k3.row q (by rw [hd.nl]; exact hq)).some_ (by rw [yW, hl]; exact hd.k1)
   simp only [Value.slice.injEq] at e
   rw [yW, hl] at h5
   exact ⟨rb, ro, fun _ => ⟨e.1, h4, by rw [e.2.2]; exact h5, by rw [e.2.2]; exact h6, h7⟩⟩
  ·exact ⟨0, 0, fun h => absurd h hq⟩
 obtain ⟨RB, hRB⟩ := Classical.axiomOfChoice hr
 obtain ⟨RO, hRO⟩ := Classical.axiomOfChoice hRB
 rw [xQ, hd.hn] at h2
 rw [hd.nl] at k1
 refine ⟨fb, fo, fc, b, off, cap, RB, RO, C, ?_, hd, h1, h4, ⟨h2, h3⟩, k3.lt, k3.ltw, ⟨k1, k2⟩, fun q hq => ?_, fun q a hq ha => ?_, fun q hq => ?_, fun q hq => ?_⟩
 ·rw [dAgg, st0_cast hd, hd.hk, xQ, hd.hn, hd.nl]
 ·rw [k3.hd q (by rw [hd.nl]; exact hq), (hRO q hq).1, hd.row q hq]
 ·rw [(hRO q hq).2.2.2.2.int a (by rw [hd.row q hq]; exact ha), nx_cast hd hq ha]
  rfl
 ·have := hRO q hq
  exact ⟨this.2.1, this.2.2.2.2.1⟩
 ·have := hRO q hq
  exact ⟨this.2.2.1, this.2.2.2.1⟩
theorem zG {w : World} {p : Nat} {x0 x1 x2 x3 : Value} {e : Nat} (h : w.heap[p]? = some (.cells #[x0, x1, x2, x3] e (0, 0))) :
  w.cell? ⟨p, 0, none⟩ = some x0 ∧ w.cell? ⟨p, 1, none⟩ = some x1 ∧ w.cell? ⟨p, 2, none⟩ = some x2 ∧ w.cell? ⟨p, 3, none⟩ = some x3 := by
 have c0 := zO h 0 (by simp)
 have c1 := zO h 1 (by simp)
 have c2 := zO h 2 (by simp)
 have c3 := zO h 3 (by simp)
 simp only [List.getElem_toArray, List.getElem_cons_zero, List.getElem_cons_succ] at c0 c1 c2 c3
 exact ⟨c0, c1, c2, c3⟩
theorem elem_string : ElemOk Try.prog 26 9 (.string ⟨#[]⟩) 16 := ⟨Try.underlying26, by kernel_rfl, rfl⟩
end Go.Proofs.Ytjfdomfendbhfaa
