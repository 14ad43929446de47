/- Part 20 of the proof: DsUp. -/
import Derived.Test.YtjfdomfendbhfaaQb19
set_option linter.unusedVariables false
set_option linter.unusedSimpArgs false
namespace Go.Proofs.Ytjfdomfendbhfaa
open Go.RowKit
theorem elem_dfa : ElemN Try.prog 84 42 4 (.agg #[.int .i64 0, .int .i64 0, .slice none 0 0, .slice none 0 0]) 64 := ⟨by kernel_rfl, by kernel_rfl, by rfl, by decide⟩
def dval (x : DfaV × Value × Value) : List Value := [.int .i64 x.1.letters, .int .i64 x.1.start, x.2.1, x.2.2]
def mZ (l : List (DfaV × Value × Value)) : List Value := l.flatMap dval
theorem dvals_snoc (l : List (DfaV × Value × Value)) (x : DfaV × Value × Value) : mZ (l ++ [x]) = mZ l ++ dval x := by simp [mZ]
theorem dvals_get : ∀ (l : List (DfaV × Value × Value)) (i : Nat) (h : i < l.length), (mZ l)[i * 4]? = some (.int .i64 l[i].1.letters) ∧ (mZ l)[i * 4 + 1]? = some (.int .i64 l[i].1.start) ∧ (mZ l)[i * 4 + 2]? = some l[i].2.1 ∧ (mZ l)[i * 4 + 3]? = some l[i].2.2
 | [], i, h => by simp at h
 | x :: l, 0, _ => ⟨rfl, rfl, rfl, rfl⟩
 | x :: l, i + 1, h => by
  have h1 := dvals_get l i (by simpa using h)
  have e : mZ (x :: l) = .int .i64 x.1.letters :: .int .i64 x.1.start :: x.2.1 :: x.2.2 :: mZ l := rfl
  rw [e, show (i + 1) * 4 = i * 4 + 1 + 1 + 1 + 1 by omega]
  rw [show i * 4 + 1 + 1 + 1 + 1 + 1 = (i * 4 + 1) + 1 + 1 + 1 + 1 by omega, show i * 4 + 1 + 1 + 1 + 1 + 2 = (i * 4 + 2) + 1 + 1 + 1 + 1 by omega, show i * 4 + 1 + 1 + 1 + 1 + 3 = (i * 4 + 3) + 1 + 1 + 1 + 1 by omega]
  simpa using h1
structure DsUp (base : Nat) (w : World) (v : Value) (l : List (DfaV × Value × Value)) : Prop where
 own : w.ownsRow base 42 4 v l.length (mZ l)
 ok : ∀ x ∈ l, DfaT w x.2.1 x.2.2 x.1
section
variable {base : Nat} {w w' : World} {v : Value} {l : List (DfaV × Value × Value)}
theorem DsUp.grow (h : DsUp base w v l) (hg : w.grownBy w' none) : DsUp base w' v l := ⟨zV h.own hg, fun x hx => (h.ok x hx).grow hg⟩
theorem DsUp.other {n : Nat} {xs : List Value} (h : w.ownsRow base 42 4 v n xs) : ∀ k, v.ownBlock = some k → zY w 4 k ∧ zY w 34 k ∧ zY w 3 k := fun k hk => ⟨yB h (by decide) k hk, yB h (by decide) k hk, yB h (by decide) k hk⟩
theorem DsUp.push {v' : Value} {x : DfaV × Value × Value} (h : DsUp base w v l) (hx : DfaT w x.2.1 x.2.2 x.1) (ho : w'.ownsRow base 42 4 v' (l.length + 1) (mZ l ++ dval x)) (hg : w.grownBy w' v.ownBlock) : DsUp base w' v' (l ++ [x]) :=
 ⟨by rw [dvals_snoc, List.length_append]; exact ho, fun y hy => by
  have hot : ∀ k, v.ownBlock = some k → zY w 4 k ∧ zY w 34 k ∧ zY w 3 k := DsUp.other h.own
  rcases List.mem_append.1 hy with hy | hy
  ·exact (h.ok y hy).kept hg hot
  ·simp at hy; subst hy; exact hx.kept hg hot⟩
end
structure DsO (B : Nat) (w : World) (g off : Nat) (ds : List DfaV) : Prop where
 lt : g < w.heap.size
 gB : g < B
 at_ : ∀ i, i < ds.length → ∃ f nx, w.cell? ⟨g, off + i * 4, none⟩ = some (.int .i64 (ds.getD i dN).letters) ∧ w.cell? ⟨g, off + i * 4 + 1, none⟩ = some (.int .i64 (ds.getD i dN).start) ∧ w.cell? ⟨g, off + i * 4 + 2, none⟩ = some f ∧ w.cell? ⟨g, off + i * 4 + 3, none⟩ = some nx ∧ sC B w (.agg #[.int .i64 (ds.getD i dN).letters, .int .i64 (ds.getD i dN).start, f, nx]) (ds.getD i dN)
theorem DsO.kept {B : Nat} {w w' : World} {g off : Nat} {ds : List DfaV} {row : Option Nat} (h : DsO B w g off ds) (hg : w.grownBy w' row) (hr : ∀ k, row = some k → B ≤ k) : DsO B w' g off ds := by
 have hb := hg.block g h.lt (fun e => by have := hr g e.symm; have := h.gB; omega)
 refine ⟨Nat.lt_of_lt_of_le h.lt hg.size, h.gB, fun i hi => ?_⟩
 obtain ⟨f, nx, h1, h2, h3, h4, h5⟩ := h.at_ i hi
 exact ⟨f, nx, (World.cell?_of_block hb).trans h1, (World.cell?_of_block hb).trans h2, (World.cell?_of_block hb).trans h3, (World.cell?_of_block hb).trans h4, h5.kept hg hr⟩
def DsIn (B : Nat) (w : World) (v : Value) (ds : List DfaV) : Prop :=
 (∃ a cap, v = .slice a 0 cap ∧ ds = []) ∨ ∃ b off cap, v = .slice (some ⟨b, off, none⟩) ds.length cap ∧ ds.length ≤ cap ∧ cap ≤ maxLen ∧ DsO B w b off ds
theorem DsIn.kept {B : Nat} {w w' : World} {v : Value} {ds : List DfaV} {row : Option Nat} (h : DsIn B w v ds) (hg : w.grownBy w' row) (hr : ∀ k, row = some k → B ≤ k) : DsIn B w' v ds := by
 rcases h with h | ⟨b, off, cap, h1, h2, h3, h4⟩
 ·exact .inl h
 ·exact .inr ⟨b, off, cap, h1, h2, h3, h4.kept hg hr⟩
theorem DsIn.shape {B : Nat} {w : World} {v : Value} {ds : List DfaV} (h : DsIn B w v ds) : ∃ a c, v = .slice a ds.length c := by
 rcases h with ⟨a, c, rfl, rfl⟩ | ⟨b, off, cap, rfl, _⟩
 ·exact ⟨a, c, rfl⟩
 ·exact ⟨_, _, rfl⟩
theorem DsIn.head {B : Nat} {w : World} {v : Value} {ds : List DfaV} (h : DsIn B w v ds) (h0 : 0 < ds.length) : ∃ b off cap, v = .slice (some ⟨b, off, none⟩) ds.length cap ∧ ds.length ≤ cap ∧ cap ≤ maxLen ∧ DsO B w b off ds := by
 rcases h with ⟨a, c, rfl, rfl⟩ | h
 ·simp at h0
 ·exact h
theorem DsUp.in_ {base : Nat} {w : World} {v : Value} {l : List (DfaV × Value × Value)} (h : DsUp base w v l) : DsIn w.heap.size w v (l.map (·.1)) := by
 have hadd : ∀ g j, (⟨g, 0, none⟩ : Addr).add j = ⟨g, j, none⟩ := fun g j => by unfold Addr.add; split <;> simp_all
 rcases h.own.2 with ⟨rfl, h0⟩ | ⟨g, cap, cur, rfl, hb, hg, hnc, hcm, _⟩
 ·exact .inl ⟨_, _, rfl, by rw [List.map_eq_nil_iff]; exact List.eq_nil_of_length_eq_zero h0⟩
 ·refine .inr ⟨g, 0, cap, by rw [List.length_map], by rw [List.length_map]; exact hnc, hcm, zN hg, zN hg, fun i hi => ?_⟩
  rw [List.length_map] at hi
  obtain ⟨h1, h2, h3, h4⟩ := dvals_get l i hi
  have c1 := h.own.cells (g := g) rfl _ _ h1
  have c2 := h.own.cells (g := g) rfl _ _ h2
  have c3 := h.own.cells (g := g) rfl _ _ h3
  have c4 := h.own.cells (g := g) rfl _ _ h4
  rw [hadd] at c1 c2 c3 c4
  have e : (l.map (·.1)).getD i dN = l[i].1 := by rw [zI (by simpa using hi)]; simp
  rw [e, Nat.zero_add]
  exact ⟨_, _, c1, c2, c3, c4, (h.ok _ (List.getElem_mem hi)).ok⟩
theorem make0N {P : Program} {w : World} {ops : Array Oper} {rest : List Oper} {o : Oper} {a : Act} {Q : Exit → Act → World → Prop} (hgd : o.guard = none) (l c : Operand) (t : TypeId) (ho : o.op = .makeSlice t l c)
  {e : TypeId} {sz : Nat} {z : Value} {bytes : Nat} (E : ElemN P t e sz z bytes) (kl kc : IntKind) (C : Int) (n : Nat) (hl : a.eval l = .int kl 0) (hc : a.eval c = .int kc C) (hC : C = (n : Int)) (hb : bytes * n ≤ 281474976710656) (h63 : n ≤ maxLen)
  (h : ∀ w', w'.ownsRow w.heap.size e sz (.slice (some ⟨w.heap.size, 0, none⟩) 0 n) 0 [] → w.grownBy w' none → wpList P ops Q rest (a.put o.dst (.slice (some ⟨w.heap.size, 0, none⟩) 0 n)) w') : wpList P ops Q (o :: rest) a w := by
 obtain ⟨i, hi, hz', hsz, hby⟩ := info_parts E.hi
 exact wpList_make_own w hgd l c t ho w.heap.size e i z sz E.ht hi hz' hsz kl kc C n hl hc hC (by rw [hby]; exact hb) h63 (Nat.le_refl _) h
end Go.Proofs.Ytjfdomfendbhfaa
