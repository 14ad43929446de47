/- Part 7 of the proof: ClsP, Make, AppR. -/
import Derived.Test.YtjfdomfendbhfaaQb6
import Derived.OwnWalk
import Derived.ArgAppend
import Derived.Deep.RegionHeld3
import Derived.Deep.DrawnRows
set_option linter.unusedVariables false
set_option linter.unusedSimpArgs false
namespace Go.Proofs.Ytjfdomfendbhfaa
def FstI (M : Nat → List Bool) (A : Nat → Bool) (s : Nat) (m : List Bool) (y : Int) : Prop :=
 (y = -1 ∧ ∀ i, i < s → M i = m → A i = false) ∨ ∃ j : Nat, y = (j : Int) ∧ j < s ∧ M j = m ∧ A j = true
theorem FstI.keep {M : Nat → List Bool} {A : Nat → Bool} {s : Nat} {m : List Bool} {y : Int} (h : FstI M A s m y) (hA : M s = m → A s = true → 0 ≤ y) : FstI M A (s + 1) m y := by
 rcases h with ⟨rfl, h⟩ | ⟨j, rfl, hj, h1, h2⟩
 ·refine .inl ⟨rfl, fun i hi hm => ?_⟩
  rcases Nat.lt_succ_iff_lt_or_eq.1 hi with hi | rfl
  ·exact h i hi hm
  ·cases hb : A i with
   | false => rfl
   | true => have := hA hm hb; omega
 ·exact .inr ⟨j, rfl, by omega, h1, h2⟩
theorem FstI.lo {M : Nat → List Bool} {A : Nat → Bool} {s : Nat} {m : List Bool} {y : Int} (h : FstI M A s m y) : -1 ≤ y ∧ y < s ∨ y = -1 := by
 rcases h with ⟨rfl, h⟩ | ⟨j, rfl, hj, h1, h2⟩
 ·exact .inr rfl
 ·exact .inl ⟨by omega, by omega⟩
structure ClsI (M : Nat → List Bool) (A : Nat → Bool) (s t : Nat) (l : List ClaV) : Prop where
 nd : (l.map ClaV.m).Nodup
 all : ∀ i, i < t → M i ∈ l.map ClaV.m
 met : ∀ c ∈ l, ∃ i, i < t ∧ M i = c.m
 yes : ∀ c ∈ l, FstI M A s c.m c.yes
 no : ∀ c ∈ l, FstI M (fun i => !A i) s c.m c.no
theorem ClsI.nil (M : Nat → List Bool) (A : Nat → Bool) : ClsI M A 0 0 [] :=
 ⟨by simp, fun i hi => by omega, fun c hc => by simp at hc, fun c hc => by simp at hc, fun c hc => by simp at hc⟩
theorem ClsI.old {M : Nat → List Bool} {A : Nat → Bool} {s : Nat} {l : List ClaV} (h : ClsI M A s s l) (hm : M s ∈ l.map ClaV.m) : ClsI M A s (s + 1) l :=
 ⟨h.nd, fun i hi => by
  rcases Nat.lt_succ_iff_lt_or_eq.1 hi with hi | rfl
  ·exact h.all i hi
  ·exact hm, fun c hc => by obtain ⟨i, hi, e⟩ := h.met c hc; exact ⟨i, by omega, e⟩, h.yes, h.no⟩
theorem ClsI.new {M : Nat → List Bool} {A : Nat → Bool} {s : Nat} {l : List ClaV} (h : ClsI M A s s l) (hm : M s ∉ l.map ClaV.m) : ClsI M A s (s + 1) (l ++ [⟨M s, -1, -1⟩]) := by
 have hno : ∀ i, i < s → M i = M s → False := fun i hi e => hm (e ▸ h.all i hi)
 refine ⟨?_, fun i hi => ?_, fun c hc => ?_, fun c hc => ?_, fun c hc => ?_⟩
 ·rw [List.map_append, List.nodup_append]
  exact ⟨h.nd, by simp, fun a ha b hb e => by simp at hb; subst hb; subst e; exact hm ha⟩
 ·rw [List.map_append]
  rcases Nat.lt_succ_iff_lt_or_eq.1 hi with hi | rfl
  ·exact List.mem_append_left _ (h.all i hi)
  ·exact List.mem_append_right _ (by simp)
 ·rcases List.mem_append.1 hc with hc | hc
  ·obtain ⟨i, hi, e⟩ := h.met c hc; exact ⟨i, by omega, e⟩
  ·simp at hc; subst hc; exact ⟨s, by omega, rfl⟩
 ·rcases List.mem_append.1 hc with hc | hc
  ·exact h.yes c hc
  ·simp at hc; subst hc; exact .inl ⟨rfl, fun i hi e => (hno i hi e).elim⟩
 ·rcases List.mem_append.1 hc with hc | hc
  ·exact h.no c hc
  ·simp at hc; subst hc; exact .inl ⟨rfl, fun i hi e => (hno i hi e).elim⟩
def putC (c : ClaV) (a : Bool) (s : Nat) : ClaV := if a = true then (if c.yes < 0 then ⟨c.m, s, c.no⟩ else c) else (if c.no < 0 then ⟨c.m, c.yes, s⟩ else c)
theorem putC_m (c : ClaV) (a : Bool) (s : Nat) : (putC c a s).m = c.m := by
 unfold putC; split <;> split <;> rfl
theorem ClsI.put {M : Nat → List Bool} {A : Nat → Bool} {s n : Nat} {l : List ClaV} (h : ClsI M A s (s + 1) l) (hn : n < l.length) (hm : (l.getD n default).m = M s) : ClsI M A (s + 1) (s + 1) (l.set n (putC (l.getD n default) (A s) s)) := by
 have e0 : l.getD n default = l[n] := zI hn
 rw [e0] at hm ⊢
 have hmap : (l.set n (putC l[n] (A s) s)).map ClaV.m = l.map ClaV.m := by
  rw [List.map_set, putC_m]
  refine List.ext_getElem (by simp) fun i h1 h2 => ?_
  rw [List.getElem_set]
  split
  ·rename_i e; subst e; simp
  ·rfl
 have hone : ∀ c ∈ l.set n (putC l[n] (A s) s), c = putC l[n] (A s) s ∨ (c ∈ l ∧ c.m ≠ M s) := fun c hc => by
  obtain ⟨i, hi, rfl⟩ := List.getElem_of_mem hc
  rw [List.length_set] at hi
  rw [List.getElem_set]
  split
  ·exact .inl rfl
  ·rename_i e
   refine .inr ⟨List.getElem_mem hi, fun e2 => e ?_⟩
   have h3 := h.nd
   have h4 : (l.map ClaV.m)[n]'(by simpa using hn) = (l.map ClaV.m)[i]'(by simpa using hi) := by simp only [List.getElem_map]; rw [hm, e2]
   exact (List.getElem_inj h3).1 h4
 have hmem := List.getElem_mem hn
 refine ⟨by rw [hmap]; exact h.nd, fun i hi => by rw [hmap]; exact h.all i hi, fun c hc => ?_, fun c hc => ?_, fun c hc => ?_⟩
 ·rcases hone c hc with rfl | ⟨hc, _⟩
  ·rw [putC_m]; exact h.met _ hmem
  ·exact h.met c hc
 ·rcases hone c hc with rfl | ⟨hc, hne⟩
  ·rw [putC_m]
   have h1 := h.yes _ hmem
   unfold putC
   split
   ·rename_i ha
    split
    ·exact .inr ⟨s, rfl, by omega, hm.symm, ha⟩
    ·rename_i h2; exact h1.keep (fun _ _ => by omega)
   ·rename_i ha
    split
    ·exact h1.keep (fun _ hb => absurd hb ha)
    ·exact h1.keep (fun _ hb => absurd hb ha)
  ·exact (h.yes c hc).keep (fun e _ => absurd e.symm hne)
 ·rcases hone c hc with rfl | ⟨hc, hne⟩
  ·rw [putC_m]
   have h1 := h.no _ hmem
   unfold putC
   split
   ·rename_i ha
    split
    ·exact h1.keep (fun _ hb => by rw [ha] at hb; cases hb)
    ·exact h1.keep (fun _ hb => by rw [ha] at hb; cases hb)
   ·rename_i ha
    split
    ·exact .inr ⟨s, rfl, by omega, hm.symm, by simp only [Bool.not_eq_true] at ha; simp [ha]⟩
    ·rename_i h2; exact h1.keep (fun _ _ => by omega)
  ·exact (h.no c hc).keep (fun e _ => absurd e.symm hne)
def nK (c : ClaV) : Bool := decide (0 ≤ c.yes ∧ 0 ≤ c.no)
section
variable {M : Nat → List Bool} {A : Nat → Bool} {s : Nat} {l : List ClaV}
theorem ClsI.both (h : ClsI M A s s l) {c : ClaV} (hc : c ∈ l) (hb : nK c = true) : ∃ y n : Nat, c.yes = (y : Int) ∧ c.no = (n : Int) ∧ y < s ∧ n < s ∧ M y = M n ∧ A y = true ∧ A n = false := by
 simp only [nK, decide_eq_true_eq] at hb
 rcases h.yes c hc with ⟨e, _⟩ | ⟨y, e1, hy, hy1, hy2⟩
 ·omega
 rcases h.no c hc with ⟨e, _⟩ | ⟨n, e2, hn, hn1, hn2⟩
 ·omega
 exact ⟨y, n, e1, e2, hy, hn, hy1.trans hn1.symm, hy2, by simpa using hn2⟩
theorem ClsI.clash (h : ClsI M A s s l) (hb : ∀ c ∈ l, nK c = false) {i j : Nat} (hi : i < s) (hj : j < s) (hm : M i = M j) (h1 : A i = true) (h2 : A j = false) : False := by
 obtain ⟨c, hc, e⟩ := List.mem_map.1 (h.all i hi)
 have h3 := hb c hc
 have h4 : 0 ≤ c.yes := by
  rcases h.yes c hc with ⟨_, h5⟩ | ⟨y, e1, _⟩
  ·have := h5 i hi e.symm; rw [h1] at this; cases this
  ·omega
 have h5 : 0 ≤ c.no := by
  rcases h.no c hc with ⟨_, h5⟩ | ⟨y, e1, _⟩
  ·have := h5 j hj (hm ▸ e.symm); simp [h2] at this
  ·omega
 simp [nK, h4, h5] at h3
theorem ClsI.dec (h : ClsI M A s s l) (hb : ∀ c ∈ l, nK c = false) {i : Nat} (hi : i < s) : ∃ c ∈ l, c.m = M i ∧ c.b = A i := by
 obtain ⟨c, hc, e⟩ := List.mem_map.1 (h.all i hi)
 refine ⟨c, hc, e, ?_⟩
 unfold ClaV.b
 rcases h.yes c hc with ⟨h4, h5⟩ | ⟨y, e1, hy, hy1, hy2⟩
 ·rw [h5 i hi e.symm, h4]; rfl
 ·have : A i = true := by
   cases hA : A i with
   | true => rfl
   | false => exact (h.clash hb hy hi (hy1.trans e) hy2 hA).elim
  rw [this, decide_eq_true_eq]; omega
theorem ClsI.len_le (h : ClsI M A s s l) : l.length ≤ s := by
 have h1 : (l.map ClaV.m).length ≤ ((List.range s).map M).length := List.Nodup.length_le_of_subset h.nd (fun x hx => by
  obtain ⟨c, hc, rfl⟩ := List.mem_map.1 hx
  obtain ⟨i, hi, e⟩ := h.met c hc
  exact List.mem_map.2 ⟨i, List.mem_range.2 hi, e⟩)
 simpa using h1
end
section
variable {M : Nat → List Bool} {A : Nat → Bool} {s : Nat} {sets : List (List Bool)} {ys ns : List Bool}
end
structure BackI (ds : List DfaV) (k : Nat) (L : List (List Nat)) (s0 s : Nat) (t : List Nat) : Prop where
 ok : yD k t
 walk : rX (nxtT ds) (L.getD s []) t.reverse = L.getD s0 []
 len : t.length + s ≤ s0
theorem BackI.start (ds : List DfaV) (k : Nat) (L : List (List Nat)) (s : Nat) : BackI ds k L s s [] := ⟨fun a ha => by simp at ha, rfl, by simp⟩
theorem BackI.step {ds : List DfaV} {k : Nat} {L : List (List Nat)} {s0 s f b : Nat} {t : List Nat} (h : BackI ds k L s0 s t) (hb : b < k) (hf : f < s) (he : nxtT ds (L.getD f []) b = L.getD s []) : BackI ds k L s0 f (t ++ [b]) :=
 ⟨fun a ha => by
  rcases List.mem_append.1 ha with ha | ha
  ·exact h.ok a ha
  ·simp at ha; subst ha; exact hb, by
  rw [List.reverse_append]
  show rX (nxtT ds) (nxtT ds (L.getD f []) b) t.reverse = _
  rw [he]; exact h.walk, by have := h.len; rw [List.length_append, List.length_singleton]; omega⟩
end Go.Proofs.Ytjfdomfendbhfaa
namespace Go.Proofs.Ytjfdomfendbhfaa
open Go.RowKit
theorem xP : ElemOk Try.prog 34 3 (.int .i64 0) 8 := ⟨Try.underlying34, by kernel_rfl, rfl⟩
theorem qC : ElemOk Try.prog 39 4 (.bool false) 1 := ⟨Try.underlying39, by kernel_rfl, rfl⟩
theorem qY : ElemOk Try.prog 40 34 (.slice none 0 0) 24 := ⟨Try.underlying40, by kernel_rfl, rfl⟩
theorem pN {z : Value} (hz : z.cells = #[z]) : ∀ (n : Nat), (madeCells z.cells (n * 1)).toList = List.replicate n z := by
 intro n
 rw [Nat.mul_one, hz]
 apply List.ext_getElem
 ·simp [madeCells]
 ·intro i h1 h2
  simp [madeCells, Nat.mod_one]
theorem make1 {P : Program} {w : World} {ops : Array Oper} {rest : List Oper} {o : Oper} {a : Act} {Q : Exit → Act → World → Prop} (hgd : o.guard = none) (l c : Operand) (t : TypeId) (ho : o.op = .makeSlice t l c)
  {e : TypeId} {z : Value} {bytes : Nat} (E : ElemOk P t e z bytes) (hz : z.cells = #[z]) (kl kc : IntKind) (L C : Int) (n : Nat) (hl : a.eval l = .int kl L) (hc : a.eval c = .int kc C) (hL : L = (n : Int)) (hC : C = (n : Int)) (hb : bytes * n ≤ 281474976710656) (h63 : n ≤ maxLen)
  (h : ∀ w', Arr w' w.heap.size e (List.replicate n z) → w.grownBy w' none → w.heap.size < w'.heap.size → wpList P ops Q rest (a.put o.dst (.slice (some ⟨w.heap.size, 0, none⟩) n n)) w') : wpList P ops Q (o :: rest) a w := by
 obtain ⟨i, hi, hz', hsz, hby⟩ := info_parts E.hi
 refine wpList_make_full w hgd l c t ho w.heap.size e i z 1 E.ht hi hz' hsz kl kc L C n hl hc hL hC (by rw [hby]; exact hb) h63 (Nat.le_refl _) ?_
 intro w' hown hg
 have ha := Arr.of_owns hown
 rw [pN hz] at ha
 exact h w' ha hg ha.lt
theorem xB {w : World} {base base' e size : Nat} {v : Value} {n : Nat} {xs : List Value} (h : w.ownsRow base e size v n xs) (hb : base' ≤ base) : w.ownsRow base' e size v n xs := by
 refine ⟨h.1, ?_⟩
 rcases h.2 with h2 | ⟨g, cap, cur, h1, h2, h3⟩
 ·exact .inl h2
 ·exact .inr ⟨g, cap, cur, h1, Nat.le_trans hb h2, h3⟩
theorem xJ {w : World} {base e n sc : Nat} {sa : Option Addr} {xs : List Value} (h : w.ownsRow base e 1 (.slice sa n sc) n xs) (hn : 0 < n) : ∃ kb, sa = some ⟨kb, 0, none⟩ ∧ n ≤ sc ∧ sc ≤ maxLen ∧ Arr w kb e xs := by
 rcases h.2 with ⟨h', h0⟩ | ⟨g, cap, cur, h1, hb, hg, hnc, hcm, _⟩
 ·omega
 ·simp only [Value.slice.injEq] at h1
  obtain ⟨rfl, -, rfl⟩ := h1
  exact ⟨g, rfl, hnc, hcm, Arr.of_owns h⟩
def nM (w w' : World) (v v' : Value) : Prop := v'.ownBlock = v.ownBlock ∨ (w.grownBy w' none ∧ ∀ k, v'.ownBlock = some k → w.heap.size ≤ k)
theorem app1s {P : Program} {w : World} {ops : Array Oper} {rest : List Oper} {o : Oper} {a : Act} {Q : Exit → Act → World → Prop} (hgd : o.guard = none) (s x : Operand) (t : TypeId)
  (ho : o.op = .call { callee := .builtin .append, args := #[s, x], argTypes := #[t, t] })
  {e : TypeId} {z : Value} {bytes : Nat} (E : ElemOk P t e z bytes) (base : Nat) (v : Value) (n : Nat) (xs : List Value) (hs : a.eval s = v) (hown : w.ownsRow base e 1 v n xs)
  (u : Value) (hx : a.eval x = .slice (some ⟨w.heap.size, 0, none⟩) 1 1) (h1 : u.oneCell' = true) (h63 : n + 1 ≤ maxLen) (hbytes : (n + 1) * bytes ≤ 140737488355328) (hbase : base ≤ w.heap.size)
  (h : ∀ sa sc w', w'.ownsRow base e 1 (.slice sa (n + 1) sc) (n + 1) (xs ++ [u]) → w.grownBy w' v.ownBlock → w.heap.size < w'.heap.size → nM w w' v (.slice sa (n + 1) sc) → wpList P ops Q rest (a.put o.dst (.slice sa (n + 1) sc)) w') :
  wpList P ops Q (o :: rest) a (w.alloc (.cells #[u] e)) := by
 obtain ⟨i, hi, hz, hsz, hby⟩ := info_parts E.hi
 have hnews : ∀ j u', [u][j]? = some u' → (w.alloc (.cells #[u] e)).cell? ((⟨w.heap.size, 0, none⟩ : Addr).add j) = some u' := by
  intro j u' hj
  match j, hj with
  | 0, hj => simp at hj; subst hj; simp [Addr.add]
 have hone : ∀ u' ∈ [u], u'.oneCell' = true := by intro u' hu; simp at hu; subst hu; exact h1
 have hA := World.grownBy_alloc w (.cells #[u] e) none
 have fin : ∀ v' w', w'.ownsRow base e 1 v' (n + 1) (xs ++ [u]) → (w.alloc (.cells #[u] e)).grownBy w' v.ownBlock → (v'.ownBlock = v.ownBlock ∨ ((w.alloc (.cells #[u] e)).grownBy w' none ∧ ∀ k, v'.ownBlock = some k → w.heap.size ≤ k)) → wpList P ops Q rest (a.put o.dst v') w' := by
  intro v' w' h1 h2 h3
  obtain ⟨sa, sc, rfl⟩ := sD h1
  refine h sa sc w' h1 ?_ (by have := h2.size; simp at this; omega) ?_
  ·exact ⟨h2.os, h2.tape, h2.output, by have := h2.size; simp at this; omega, fun k hk hne => (h2.block k (by simp; omega) hne).trans (Below.heap_alloc w _ k hk)⟩
  ·rcases h3 with h3 | ⟨h3, h4⟩
   ·exact .inl h3
   ·exact .inr ⟨zF hA h3, h4⟩
 rcases hown.2 with ⟨rfl, rfl⟩ | ⟨g, cap, cur, rfl, hb, hg, hnc, hcm, hcs, htake⟩
 ·have hl : xs = [] := List.eq_nil_of_length_eq_zero (by have := hown.1; omega)
  subst hl
  refine wpList_append_grows _ hgd s x t ho e i z 1 bytes E.ht hi hz hsz hby E.hz (by decide) none 0 0 [] hs (fun _ => ⟨rfl, rfl⟩) rfl (fun b hb => by cases hb) ⟨w.heap.size, 0, none⟩ 1 1 [u] hx rfl hnews hone (by omega) h63 hbytes ?_
  intro v' w' h1 h2
  exact fin v' w' (xB h1 (by simp; omega)) (rL h2) (.inr ⟨h2, fun k hk => by have := (h1.lt k hk).1; simp at this; omega⟩)
 ·by_cases hroom : n + 1 ≤ cap
  ·refine wpList_append_fits _ hgd s x t ho base e i 1 E.ht hi hsz g n cap xs hs (hown.alloc _) ⟨w.heap.size, 0, none⟩ 1 1 [u] hx rfl hnews hone hroom ?_
   intro w' h1 h2
   exact fin _ w' h1 h2 (.inl rfl)
  ·refine wpList_append_grows _ hgd s x t ho e i z 1 bytes E.ht hi hz hsz hby E.hz (by decide) (some ⟨g, 0, none⟩) n cap xs hs (fun h => by cases h) hown.1 (fun b hb j u' hj => ?_) ⟨w.heap.size, 0, none⟩ 1 1 [u] hx rfl hnews hone (by omega) h63 hbytes ?_
   ·simp at hb
    subst hb
    have hj' : j < xs.length := by
     rcases Nat.lt_or_ge j xs.length with h | h
     ·exact h
     ·rw [List.getElem?_eq_none h] at hj; cases hj
    have := (Arr.of_owns (hown.alloc (.cells #[u] e))).cell j hj'
    rw [List.getElem?_eq_getElem hj'] at hj
    have hadd : (⟨g, 0, none⟩ : Addr).add j = ⟨g, j, none⟩ := by unfold Addr.add; split <;> simp_all
    rw [hadd, this]; exact hj
   ·intro v' w' h1 h2
    exact fin v' w' (xB h1 (by simp; omega)) (rL h2) (.inr ⟨h2, fun k hk => by have := (h1.lt k hk).1; simp at this; omega⟩)
def bls (bs : List Bool) : List Value := bs.map Value.bool
def nats (l : List Nat) : List Value := l.map fun (x : Nat) => Value.int .i64 (x : Int)
theorem xQ (bs : List Bool) : (bls bs).length = bs.length := by simp [bls]
theorem yF (l : List Nat) : (nats l).length = l.length := by simp [nats]
theorem Arr.bool {w : World} {g : Nat} {e : TypeId} {bs : List Bool} (h : Arr w g e (bls bs)) (i : Nat) (hi : i < bs.length) : w.cell? ⟨g, i, none⟩ = some (.bool (bs.getD i false)) := by
 rw [h.cell i (by rw [xQ]; exact hi)]
 simp [bls, List.getD, List.getElem?_eq_getElem hi]
theorem Arr.int {w : World} {g : Nat} {e : TypeId} {zs : List Int} (h : Arr w g e (ints zs)) (i : Nat) (hi : i < zs.length) : w.cell? ⟨g, i, none⟩ = some (.int .i64 (zs.getD i 0)) := by
 rw [h.cell i (by rw [yW]; exact hi)]
 simp [ints, List.getD, List.getElem?_eq_getElem hi]
theorem Arr.nat {w : World} {g : Nat} {e : TypeId} {l : List Nat} (h : Arr w g e (nats l)) (i : Nat) (hi : i < l.length) : w.cell? ⟨g, i, none⟩ = some (.int .i64 ((l.getD i 0 : Nat) : Int)) := by
 rw [h.cell i (by rw [yF]; exact hi)]
 simp [nats, List.getD, List.getElem?_eq_getElem hi]
theorem vU.nat {w : World} {b off : Nat} {l : List Nat} (h : vU w b off (nats l)) (i : Nat) (hi : i < l.length) : w.cell? ⟨b, off + i, none⟩ = some (.int .i64 ((l.getD i 0 : Nat) : Int)) := by
 rw [vU.map h i hi]
 simp [List.getD, List.getElem?_eq_getElem hi]
theorem Arr.bool_set {w : World} {g : Nat} {e : TypeId} {bs : List Bool} (h : Arr w g e (bls bs)) (i : Nat) (hi : i < bs.length) (c : Bool) : Arr (w.setCell ⟨g, i, none⟩ (.bool c)) g e (bls (bs.set i c)) := by
 have := h.set i (by rw [xQ]; exact hi) (.bool c)
 rwa [bls, List.map_set]
theorem Arr.int_set {w : World} {g : Nat} {e : TypeId} {zs : List Int} (h : Arr w g e (ints zs)) (i : Nat) (hi : i < zs.length) (c : Int) : Arr (w.setCell ⟨g, i, none⟩ (.int .i64 c)) g e (ints (zs.set i c)) := by
 have := h.set i (by rw [yW]; exact hi) (.int .i64 c)
 rwa [ints, List.map_set]
theorem Arr.nat_set {w : World} {g : Nat} {e : TypeId} {l : List Nat} (h : Arr w g e (nats l)) (i : Nat) (hi : i < l.length) (c : Nat) : Arr (w.setCell ⟨g, i, none⟩ (.int .i64 (c : Int))) g e (nats (l.set i c)) := by
 have := h.set i (by rw [yF]; exact hi) (.int .i64 (c : Int))
 rwa [nats, List.map_set]
theorem xU (n : Nat) : nats (List.replicate n 0) = List.replicate n (.int .i64 0) := by simp [nats]
theorem oO (n : Nat) : ints (List.replicate n 0) = List.replicate n (.int .i64 0) := by simp [ints]
theorem pK (l : List Nat) (x : Nat) : nats (l ++ [x]) = nats l ++ [.int .i64 (x : Int)] := by simp [nats]
theorem jV {α : Type} (l : List α) (i : Nat) (c d : α) (hi : i < l.length) : (l.set i c).getD i d = c := by simp [List.getD, hi]
theorem getD_set_ne {α : Type} (l : List α) (i j : Nat) (c d : α) (hne : i ≠ j) : (l.set i c).getD j d = l.getD j d := by simp [List.getD, List.getElem?_set_ne hne]
theorem yH {α : Type} {l : List α} {k : Nat} {d : α} (h : k < l.length) : l.take (k + 1) = l.take k ++ [l.getD k d] := by
 rw [List.take_succ_eq_append_getElem h]; simp [List.getD, List.getElem?_eq_getElem h]
theorem rY (w : World) (c1 c2 : Array Value) (e : Nat) : ((w.alloc (.cells c1 e)).alloc (.cells c2 e)).heap[w.heap.size]? = some (.cells c1 e (0, 0)) ∧ ((w.alloc (.cells c1 e)).alloc (.cells c2 e)).heap[w.heap.size + 1]? = some (.cells c2 e (0, 0)) ∧ w.grownBy ((w.alloc (.cells c1 e)).alloc (.cells c2 e)) none ∧ ((w.alloc (.cells c1 e)).alloc (.cells c2 e)).heap.size = w.heap.size + 2 := by
 refine ⟨zB (heap_alloc_new w _) (World.grownBy_alloc _ _ none) (by simp), ?_, vG (World.grownBy_alloc w _ none) _, by rw [zJ, zJ]⟩
 have := heap_alloc_new (w.alloc (.cells c1 e)) (.cells c2 e)
 rw [zJ] at this
 exact this
theorem run_append_of_nil {P : Program} {w : World} (base : Nat) (t ty e : TypeId) (i : TypeInfo) (size : Nat) (ht : P.underlying t = some (.slice e)) (hi : P.info? e = some i)
  (v : Value) (n : Nat) (xs : List Value) (hown : w.ownsRow base e size v n xs) (c : Nat) : (Builtin.append_ #[t, t] ty #[v, .slice none 0 c]).run P w = .ok v w := by
 rcases hown.2 with ⟨rfl, rfl⟩ | ⟨g, cap, cur, rfl, _, _, hnc, _⟩
 ·simp [Builtin.append_, run_underlying ht, sizeOf, typeInfo, hi, Builtin.lenOf, Builtin.firstCells]
 ·simp [Builtin.append_, run_underlying ht, sizeOf, typeInfo, hi, Builtin.lenOf, Builtin.firstCells, hnc, storeCells]
theorem rG {w : World} {base e size n : Nat} {v : Value} {xs : List Value} (h : w.ownsRow base e size v n xs) : ∃ sa sc, v = .slice sa n sc := by
 rcases h.2 with ⟨rfl, rfl⟩ | ⟨g, cap, cur, rfl, _⟩
 ·exact ⟨none, 0, rfl⟩
 ·exact ⟨_, _, rfl⟩
theorem wp_appR {P : Program} {w : World} {o : Oper} {a : Act} {K : Act → World → Prop} {Q : Exit → Act → World → Prop} (s x : Operand) (t : TypeId)
  (ho : o.op = .call { callee := .builtin .append, args := #[s, x], argTypes := #[t, t] })
  {e : TypeId} {z : Value} {bytes : Nat} (E : ElemOk P t e z bytes) (base : Nat) (v : Value) (n : Nat) (xs : List Value) (hs : a.eval s = v) (hown : w.ownsRow base e 1 v n xs)
  (sv : Value) (news : List Value) (hx : a.eval x = sv) (hrow : ∃ B, Row B w sv news) (h1 : ∀ u ∈ news, u.oneCell' = true) (N : Nat) (hN : n + news.length = N) (h63 : N ≤ maxLen) (hbytes : N * bytes ≤ 140737488355328) (hbase : base ≤ w.heap.size)
  (h : ∀ sa sc w', w'.ownsRow base e 1 (.slice sa N sc) N (xs ++ news) → w.grownBy w' v.ownBlock → K (a.put o.dst (.slice sa N sc)) w') : o.wp P a w K Q := by
 obtain ⟨i, hi, hz, hsz, hby⟩ := info_parts E.hi
 subst hN
 have fin : ∀ v' w', w'.ownsRow base e 1 v' (n + news.length) (xs ++ news) → w.grownBy w' v.ownBlock → K (a.put o.dst v') w' := by
  intro v' w' h1 h2
  obtain ⟨sa, sc, rfl⟩ := rG h1
  exact h sa sc w' h1 h2
 obtain ⟨B, hrow⟩ := hrow
 rcases hrow with ⟨a', cap, rfl, rfl⟩ | ⟨b, off, cap, rfl, _, h2, h3, hra⟩
 ·cases a' with
  | none =>
   have hr := run_append_of_nil (P := P) (w := w) base t o.type e i 1 E.ht hi v n xs hown cap
   unfold Oper.wp execOp
   simp only [ho, resolve, invoke, builtin, Sem.run_bind, Sem.run_pure, Result.andThen_ok, List.map_toArray, List.map_cons, List.map_nil, hs, hx, hr]
   exact fin v w (by simpa using hown) (World.grownBy.refl w _)
  | some ad =>
   refine wp_append_own w s x t ho base e i z 1 bytes E.ht hi hz hsz hby E.hz (by decide) v n xs hs hown ad 0 cap [] hx rfl (fun j u hj => by simp at hj) (fun u hu => by simp at hu) h63 hbytes hbase ?_
   intro v' w' h1 h2 _
   exact fin v' w' h1 h2
 ·refine wp_append_own w s x t ho base e i z 1 bytes E.ht hi hz hsz hby E.hz (by decide) v n xs hs hown ⟨b, off, none⟩ news.length cap news hx (by simp) (fun j u' hj => ?_) h1 h63 hbytes hbase ?_
  ·have hjl : j < news.length := by
    rcases Nat.lt_or_ge j news.length with h | h
    ·exact h
    ·rw [List.getElem?_eq_none h] at hj; cases hj
   have hadd : (⟨b, off, none⟩ : Addr).add j = ⟨b, off + j, none⟩ := by unfold Addr.add; split <;> simp_all
   rw [List.getElem?_eq_getElem hjl] at hj
   rw [hadd, hra.2 j hjl, hj]
  ·intro v' w' h1 h2 _
   exact fin v' w' h1 h2
theorem step_appR {P : Program} {ops : Array Oper} {w : World} {o : Oper} {a : Act} {K : Act → World → Prop} {Q : Exit → Act → World → Prop} {R : Prop} (hgd : o.guard = none) (s x : Operand) (t : TypeId)
  (ho : o.op = .call { callee := .builtin .append, args := #[s, x], argTypes := #[t, t] })
  {e : TypeId} {z : Value} {bytes : Nat} (E : ElemOk P t e z bytes) (base : Nat) (v : Value) (n : Nat) (xs : List Value) (hs : a.eval s = v) (hown : w.ownsRow base e 1 v n xs)
  (sv : Value) (news : List Value) (hx : a.eval x = sv) (hrow : ∃ B, Row B w sv news) (h1 : ∀ u ∈ news, u.oneCell' = true) (N : Nat) (hN : n + news.length = N) (h63 : N ≤ maxLen) (hbytes : N * bytes ≤ 140737488355328) (hbase : base ≤ w.heap.size)
  (h : ∀ sa sc w', w'.ownsRow base e 1 (.slice sa N sc) N (xs ++ news) → w.grownBy w' v.ownBlock → K (a.put o.dst (.slice sa N sc)) w') : if Region.wanted o (yielded ops a.tmps) = true then Oper.wp P o a w K Q else R := by
 have hw : Region.wanted o (yielded ops a.tmps) = true := by simp [Region.wanted, hgd]
 rw [if_pos hw]
 exact wp_appR s x t ho E base v n xs hs hown sv news hx hrow h1 N hN h63 hbytes hbase h
theorem appR {P : Program} {w : World} {ops : Array Oper} {rest : List Oper} {o : Oper} {a : Act} {Q : Exit → Act → World → Prop} (hgd : o.guard = none) (s x : Operand) (t : TypeId)
  (ho : o.op = .call { callee := .builtin .append, args := #[s, x], argTypes := #[t, t] })
  {e : TypeId} {z : Value} {bytes : Nat} (E : ElemOk P t e z bytes) (base : Nat) (v : Value) (n : Nat) (xs : List Value) (hs : a.eval s = v) (hown : w.ownsRow base e 1 v n xs)
  (sv : Value) (news : List Value) (hx : a.eval x = sv) (hrow : ∃ B, Row B w sv news) (h1 : ∀ u ∈ news, u.oneCell' = true) (N : Nat) (hN : n + news.length = N) (h63 : N ≤ maxLen) (hbytes : N * bytes ≤ 140737488355328) (hbase : base ≤ w.heap.size)
  (h : ∀ sa sc w', w'.ownsRow base e 1 (.slice sa N sc) N (xs ++ news) → w.grownBy w' v.ownBlock → wpList P ops Q rest (a.put o.dst (.slice sa N sc)) w') : wpList P ops Q (o :: rest) a w :=
 wpList_plain hgd fun _ hK => wp_appR s x t ho E base v n xs hs hown sv news hx hrow h1 N hN h63 hbytes hbase fun sa sc w' h2 h3 => hK _ _ (h sa sc w' h2 h3)
theorem mB {W : World} {e base g : Nat} (h : W.heap[g]? = some (.cells #[] e (0, 0))) (hb : base ≤ g) : W.ownsRow base e 1 (.slice (some ⟨g, 0, none⟩) 0 0) 0 [] :=
 ⟨by simp, .inr ⟨g, 0, #[], rfl, hb, h, Nat.le_refl _, Nat.zero_le _, by simp, by simp⟩⟩
theorem oE (w : World) (o o' : Obj) : ((w.alloc o).alloc o').heap[w.heap.size]? = some o := zB (heap_alloc_new w o) (World.grownBy_alloc _ _ none) (by simp)
theorem pZ (w : World) (o o' : Obj) : ((w.alloc o).alloc o').heap[w.heap.size + 1]? = some o' := by
 have := heap_alloc_new (w.alloc o) o'
 rwa [zJ] at this
theorem vU.take {w : World} {b off : Nat} {xs : List Value} (h : vU w b off xs) (k : Nat) : vU w b off (xs.take k) :=
 ⟨h.1, fun i hi => by rw [List.length_take] at hi; rw [h.2 i (by omega), List.getElem_take]⟩
theorem vU.drop {w : World} {b off : Nat} {xs : List Value} (h : vU w b off xs) (k : Nat) : vU w b (off + k) (xs.drop k) :=
 ⟨h.1, fun i hi => by rw [List.length_drop] at hi; rw [Nat.add_assoc, h.2 (k + i) (by omega), List.getElem_drop]⟩
end Go.Proofs.Ytjfdomfendbhfaa
