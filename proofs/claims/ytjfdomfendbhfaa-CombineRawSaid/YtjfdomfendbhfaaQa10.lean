/- Part 10 of the proof: Many2, Inv2, KeyI, Dfa0, MapNo, DfaAt. -/
import Derived.Test.YtjfdomfendbhfaaQa9
import Derived.Maps.Own
import Derived.Maps.Views
import Derived.Maps.OwnSet
import Derived.Maps.OwnOps
import Derived.Deep.DeepCutAuto
import Derived.Deep.CutBlock
set_option linter.unusedVariables false
set_option linter.unusedSimpArgs false
namespace Go.Proofs.Ytjfdomfendbhfaa
open Go.RowKit
def SrcRow (w : World) (sz : Nat) (sv : Value) (m : Nat) (news : List Value) : Prop :=
 (∃ a cap, sv = .slice a 0 cap ∧ m = 0 ∧ news = []) ∨ ∃ b off cap, sv = .slice (some ⟨b, off, none⟩) m cap ∧ news.length = m * sz ∧ m ≤ maxLen ∧ ∀ j u, news[j]? = some u → w.cell? ⟨b, off + j, none⟩ = some u
theorem Row.src {B : Nat} {w : World} {v : Value} {xs : List Value} (h : Row B w v xs) : SrcRow w 1 v xs.length xs := by
 rcases h with ⟨a, cap, rfl, rfl⟩ | ⟨b, off, cap, rfl, _, h2, h3, hra⟩
 ·exact .inl ⟨a, cap, rfl, rfl, rfl⟩
 ·refine .inr ⟨b, off, cap, rfl, by omega, by omega, fun j u hj => ?_⟩
  have hjl : j < xs.length := by
   rcases Nat.lt_or_ge j xs.length with h | h
   ·exact h
   ·rw [List.getElem?_eq_none h] at hj; cases hj
  rw [List.getElem?_eq_getElem hjl] at hj
  rw [hra.2 j hjl, hj]
theorem run_append_movedR {P : Program} {w : World} (base : Nat) (t ty : TypeId) {e : TypeId} {sz : Nat} {z : Value} {bytes : Nat} (E : ElemN P t e sz z bytes)
  (v : Value) (n : Nat) (xs : List Value) (hown : w.ownsRow base e sz v n xs) (sv : Value) (m : Nat) (news : List Value) (hrow : SrcRow w sz sv m news) (h1 : ∀ u ∈ news, u.oneCell' = true)
  (h63 : n + m ≤ maxLen) (hbytes : (n + m) * bytes ≤ 140737488355328) (hbase : base ≤ w.heap.size) :
  ∃ v' w', (Builtin.append_ #[t, t] ty #[v, sv]).run P w = .ok v' w' ∧ w'.ownsRow base e sz v' (n + m) (xs ++ news) ∧ w.grownBy w' v.ownBlock ∧ oD w w' v v' := by
 obtain ⟨i, hi, hz, hsz, hby⟩ := info_parts E.hi
 have hpos := E.pos
 have hsmall : n + m ≤ 9223372036854775807 := by simp only [maxLen] at h63; omega
 have hadd : ∀ (b off j : Nat), (⟨b, off, none⟩ : Addr).add j = ⟨b, off + j, none⟩ := fun b off j => by unfold Addr.add; split <;> simp_all
 have stay : ∀ (a' : Addr) (cap : Nat), m = 0 → news = [] → ∃ v' w', (Builtin.append_ #[t, t] ty #[v, .slice (some a') 0 cap]).run P w = .ok v' w' ∧ w'.ownsRow base e sz v' (n + m) (xs ++ news) ∧ w.grownBy w' v.ownBlock ∧ oD w w' v v' := by
  intro a' cap hm0 hn
  subst hn
  subst hm0
  obtain ⟨v', w', hr, h2, h3, h4⟩ := run_append_own (P := P) w base t ty e i z sz bytes E.ht hi hz hsz hby E.hz hpos v n xs hown a' 0 cap [] (by simp) (fun j u hj => by simp at hj) (fun u hu => by simp at hu) (by simpa using h63) (by simpa using hbytes) hbase
  refine ⟨v', w', hr, h2, h3, ?_⟩
  rcases hown.2 with ⟨rfl, rfl⟩ | ⟨b, bc, cur, rfl, hb, hg, hnc, hcm, hcs, htake⟩
  ·have := h4.2 ⟨rfl, rfl⟩
   subst this
   exact .inl rfl
  ·obtain ⟨w2, hr2, _⟩ := run_append_fits (P := P) w base t ty e i sz E.ht hi hsz b n bc xs hown a' 0 cap [] (by simp) (fun j u hj => by simp at hj) (fun u hu => by simp at hu) (by omega)
   rw [hr2] at hr
   injection hr with e1 e2
   subst e1
   exact .inl rfl
 rcases hrow with ⟨a', cap, rfl, rfl, rfl⟩ | ⟨b, off, cap, rfl, hnl, hml, hra⟩
 ·cases a' with
  | none =>
   have hr : (Builtin.append_ #[t, t] ty #[v, .slice none 0 cap]).run P w = .ok v w := by
    rcases hown.2 with ⟨rfl, rfl⟩ | ⟨g, gc, cur, rfl, _, _, hnc, _⟩
    ·simp [Builtin.append_, run_underlying E.ht, sizeOf, typeInfo, hi, Builtin.lenOf, Builtin.firstCells]
    ·simp [Builtin.append_, run_underlying E.ht, sizeOf, typeInfo, hi, Builtin.lenOf, Builtin.firstCells, hnc, storeCells]
   exact ⟨v, w, hr, by simpa using hown, zK _ _, .inl rfl⟩
  | some a' => exact stay a' cap rfl rfl
 ·by_cases hm0 : m = 0
  ·have hn0 : news = [] := List.eq_nil_of_length_eq_zero (by rw [hnl, hm0]; simp)
   subst hm0
   exact stay _ _ rfl hn0
  have hnews : ∀ j u', news[j]? = some u' → w.cell? ((⟨b, off, none⟩ : Addr).add j) = some u' := fun j u' hj => by rw [hadd]; exact hra j u' hj
  obtain ⟨v', w', hr, h2', h3', _⟩ := run_append_own (P := P) w base t ty e i z sz bytes E.ht hi hz hsz hby E.hz hpos v n xs hown ⟨b, off, none⟩ m cap news hnl hnews h1 h63 hbytes hbase
  refine ⟨v', w', hr, h2', h3', ?_⟩
  rcases hown.2 with ⟨rfl, rfl⟩ | ⟨g, gc, cur, rfl, hb, hg, hnc, hcm, hcs, htake⟩
  ·have hr2 := run_append_nil (P := P) w t ty e i z E.ht hi hz ⟨b, off, none⟩ m cap news (by rw [hnl, hsz]) hnews (by omega) (by omega) (by rw [hby]; simp at hbytes; omega)
   rw [hr2] at hr
   injection hr with e1 e2
   subst e1; subst e2
   refine .inr ⟨rO (World.grownBy_alloc w _ none) rfl rfl rfl rfl, fun k hk => ?_⟩
   have : w.heap.size = k := by simpa [Value.ownBlock] using hk
   omega
  ·by_cases hroom : n + m ≤ gc
   ·obtain ⟨w2, hr2, _⟩ := run_append_fits (P := P) w base t ty e i sz E.ht hi hsz g n gc xs hown ⟨b, off, none⟩ m cap news hnl hnews h1 hroom
    rw [hr2] at hr
    injection hr with e1 e2
    subst e1
    exact .inl rfl
   ·have holds : ∀ j u, xs[j]? = some u → w.cell? ((⟨g, 0, none⟩ : Addr).add j) = some u := hown.cells (g := g) rfl
    have hlo : xs.length = n * i.size := by rw [hsz]; exact hown.1
    have hr2 := run_append_grow (P := P) w t ty e i z E.ht hi hz ⟨g, 0, none⟩ n gc xs hlo holds ⟨b, off, none⟩ m cap news (by rw [hnl, hsz]) hnews (by omega) (by omega) (growslice_fits (by omega) (by rw [hby]; exact hbytes))
    rw [hr2] at hr
    injection hr with e1 e2
    subst e1; subst e2
    refine .inr ⟨rO (World.grownBy_alloc w _ none) rfl rfl rfl rfl, fun k hk => ?_⟩
    have : w.heap.size = k := by simpa [Value.ownBlock] using hk
    omega
section
variable {w0 W W' : World} {F : Nat → Prop} {rs : List RowS} {ls ls' : List (Nat × Obj)} {ps : List (Nat × TypeId × List Value)}
end
section
variable {P : Program} {md : Region.Mode} {ops : Array Oper} {Q : Exit → Act → World → Prop} {G : Array Bool → World → Prop}
end
section
variable {P : Program} {md : Region.Mode} {ops : Array Oper} {Q : Exit → Act → World → Prop} {G : Array Bool → World → Prop}
end
section
variable {w0 W W' : World} {F : Nat → Prop} {rs : List RowS} {ls : List (Nat × Obj)}
theorem Many.far (h : Many w0 F W rs ls []) {r : Nat} (hg : W.grownBy W' (some r)) (hF : F r) (hlt : r < w0.heap.size) (hne : ∀ (j : Nat) (s : RowS), rs[j]? = some s → s.v.ownBlock ≠ some r) : Many w0 F W' rs ls [] where
 own := fun j s hs => (h.own j s hs).kept hg (.inr (hne j s hs))
 mine := h.mine
 apart := h.apart
 lit := fun p hp => ⟨zB (h.lit p hp).1 hg (fun e => by have e := Option.some.inj e; have := (h.lit p hp).2.2; omega), (h.lit p hp).2⟩
 pre := fun p hp => by cases hp
 but := h.but.step hg (fun k e => .inl (by have e := Option.some.inj e; subst e; exact hF))
end
theorem Many.start {w : World} {F : Nat → Prop} {rs : List RowS} (hown : ∀ r ∈ rs, w.ownsRow r.base r.e r.sz r.v r.n r.xs) (hF : ∀ r ∈ rs, ∀ k, r.v.ownBlock = some k → F k) (hap : rs.Pairwise (fun r s => ∀ k, r.v.ownBlock = some k → s.v.ownBlock ≠ some k)) : Many w F w rs [] [] where
 own := fun j r hr => hown r (List.mem_of_getElem? hr)
 mine := fun j r hr k hk => .inl (hF r (List.mem_of_getElem? hr) k hk)
 apart := fun i j r s hij hr hs k hk hk2 => by
  obtain ⟨hi, hri⟩ := List.getElem?_eq_some_iff.1 hr
  obtain ⟨hj, hsj⟩ := List.getElem?_eq_some_iff.1 hs
  rcases Nat.lt_or_gt_of_ne hij with h | h
  ·have := List.pairwise_iff_getElem.1 hap i j hi hj h k
   rw [hri, hsj] at this
   exact this hk hk2
  ·have := List.pairwise_iff_getElem.1 hap j i hj hi h k
   rw [hri, hsj] at this
   exact this hk2 hk
 lit := fun p hp => by simp at hp
 pre := fun p hp => by simp at hp
 but := GrownBut.refl _ _
end Go.Proofs.Ytjfdomfendbhfaa
namespace Go.Proofs.Ytjfdomfendbhfaa
open Go.RowKit Go.Maps
theorem key_int : Keyed Try.prog 3 := int_keyed (q := .i64) (by kernel_rfl)
end Go.Proofs.Ytjfdomfendbhfaa
namespace Go.Proofs.Ytjfdomfendbhfaa
open Go.RowKit
def tY (B : Nat) (w : World) (v : Value) (d : DfaV) : Prop := ∃ fv nv, v = .agg #[.int .i64 d.letters, .int .i64 d.start, fv, nv] ∧ Row B w fv (bls d.final) ∧ Mat B w nv d.next
theorem tY.kept {B : Nat} {w w' : World} {v : Value} {d : DfaV} {row : Option Nat} (h : tY B w v d) (hg : w.grownBy w' row) (hr : ∀ k, row = some k → B ≤ k) : tY B w' v d := by
 obtain ⟨fv, nv, h1, h2, h3⟩ := h
 exact ⟨fv, nv, h1, h2.kept hg hr, h3.kept hg hr⟩
theorem tY.mono {B B' : Nat} {w : World} {v : Value} {d : DfaV} (h : tY B w v d) (hB : B ≤ B') : tY B' w v d := by
 obtain ⟨fv, nv, h1, h2, h3⟩ := h
 exact ⟨fv, nv, h1, h2.mono hB, h3.mono hB⟩
theorem validD_letters {d : DfaV} (h : d.letters < 1 ∨ 6 < d.letters) : xR d = 1 := by rw [xR, if_pos h]
theorem validD_big {d : DfaV} (h : ¬ (d.letters < 1 ∨ 6 < d.letters)) (h2 : 512 < d.final.length) : xR d = 3 := by rw [xR, if_neg h, if_pos h2]
theorem validD_shape {d : DfaV} (h : ¬ (d.letters < 1 ∨ 6 < d.letters)) (h2 : ¬ 512 < d.final.length) (h3 : d.final.length = 0 ∨ d.next.length ≠ d.final.length ∨ d.start < 0 ∨ d.final.length ≤ d.start) : xR d = 4 := by rw [xR, if_neg h, if_neg h2, if_pos h3]
theorem oE {d : DfaV} (h : ¬ (d.letters < 1 ∨ 6 < d.letters)) (h2 : ¬ 512 < d.final.length) (h3 : ¬ (d.final.length = 0 ∨ d.next.length ≠ d.final.length ∨ d.start < 0 ∨ d.final.length ≤ d.start)) {q : Nat} (hq : q < d.next.length) (hb : rowD d.letters d.final.length (d.next.getD q []) = false) : xR d = 4 := by
 rw [xR, if_neg h, if_neg h2, if_neg h3, if_neg]
 intro ha
 have := List.all_eq_true.1 ha d.next[q] (List.getElem_mem hq)
 rw [zF hq, this] at hb; cases hb
theorem validD_ok {d : DfaV} (h : ¬ (d.letters < 1 ∨ 6 < d.letters)) (h2 : ¬ 512 < d.final.length) (h3 : ¬ (d.final.length = 0 ∨ d.next.length ≠ d.final.length ∨ d.start < 0 ∨ d.final.length ≤ d.start)) (ha : ∀ q, q < d.next.length → rowD d.letters d.final.length (d.next.getD q []) = true) : xR d = 0 := by
 rw [xR, if_neg h, if_neg h2, if_neg h3, if_pos]
 rw [List.all_eq_true]
 intro r hr
 obtain ⟨q, hq, rfl⟩ := List.getElem_of_mem hr
 have := ha q hq
 rwa [zF hq] at this
theorem rowD_len {k : Int} {n : Nat} {r : List Int} (h : (r.length : Int) ≠ k) : rowD k n r = false := by simp [rowD, h]
theorem rowD_bad {k : Int} {n : Nat} {r : List Int} {y : Nat} (hy : y < r.length) (h : r.getD y 0 < 0 ∨ n ≤ r.getD y 0) : rowD k n r = false := by
 rw [← Bool.not_eq_true]
 intro hr
 have := (rW.1 hr).2 y hy
 omega
def DRows (d : DfaV) (k : Nat) : Prop := ∀ x, x < k → rowD d.letters d.final.length (d.next.getD x []) = true
end Go.Proofs.Ytjfdomfendbhfaa
namespace Go.Proofs.Ytjfdomfendbhfaa
open Go.RowKit Go.Maps
theorem vL : Try.prog.underlying 171 = some (.map 3 3) := by kernel_rfl
theorem vW : Try.prog.underlying 3 = some (.int .i64) := by kernel_rfl
theorem jV (w : World) : (zeroValue 3).run Try.prog w = .ok (.int .i64 0) w := by kernel_rfl
def Mid (x : Int) : Prop := -4611686018427387904 < x ∧ x < 4611686018427387904
theorem mid_wf {x : Int} (hx : Mid x) : (Lit.int .i64 x).wf = true := by
 have h1 : IntKind.i64.min = -9223372036854775808 := rfl
 have h2 : IntKind.i64.max = 9223372036854775807 := rfl
 obtain ⟨h3, h4⟩ := hx
 simp [Lit.wf]; omega
theorem mid_key {x : Int} (hx : Mid x) : keyOf Try.prog 3 (.int .i64 x) = some (.int .i64 x) := keyOf_int_mk (q := .i64) (by kernel_rfl) (mid_wf hx)
def tX (w : World) (b n : Nat) (l : List Int) : Prop :=
 ∃ D : DataW Unit, w.ownsMap Try.prog 3 (plainElem Try.prog 3) b n D ∧ size D = l.length ∧
  ∀ x : Int, Mid x → has D (.int .i64 x) = decide (x ∈ l) ∧ D.atKey (.int .i64 x) (.lit (.int .i64 0)) = .lit (.int .i64 (if x ∈ l then ((l.idxOf x : Nat) : Int) else 0))
theorem tX.made (w : World) : tX (w.alloc (.map #[] 0)) w.heap.size 0 [] := by
 refine ⟨.map [], World.ownsMap_made _ _ _ _, rfl, fun x _ => ⟨by simp [has_eq], ?_⟩⟩
 rw [WideAt.atKey_none _ (by simp)]
 simp
theorem tX.kept {w w' : World} {b n : Nat} {l : List Int} {row : Option Nat} (h : tX w b n l) (hg : w.grownBy w' row) (hne : row ≠ some b) : tX w' b n l := by
 obtain ⟨D, h1, h2, h3⟩ := h
 exact ⟨D, h1.kept hg (fun e => hne e.symm), h2, h3⟩
theorem tX.mono {w : World} {b n n' : Nat} {l : List Int} (h : tX w b n l) (hn : n ≤ n') : tX w b n' l := by
 obtain ⟨D, h1, h2, h3⟩ := h
 exact ⟨D, h1.mono hn, h2, h3⟩
theorem tX.lt {w : World} {b n : Nat} {l : List Int} (h : tX w b n l) : b < w.heap.size := by
 obtain ⟨D, h1, _⟩ := h
 exact h1.lt
theorem tX.lookup {w : World} {b n : Nat} {l : List Int} (h : tX w b n l) {x : Int} (hx : Mid x) : (Instr.lookup 171 (.map (some b)) (.int .i64 x) true).run Try.prog w = .ok (.tuple #[.int .i64 (if x ∈ l then ((l.idxOf x : Nat) : Int) else 0), .bool (decide (x ∈ l))]) w := by
 obtain ⟨D, h1, h2, h3⟩ := h
 obtain ⟨v, ps, hrun, hv⟩ := h1.look_ok key_int vL (jV w) (plainElem_int vW (by decide)) (mid_key hx)
 obtain ⟨c, rfl, hc, _⟩ := plainElem_int_inv vW hv
 obtain ⟨e1, e2⟩ := h3 x hx
 have e3 := congrArg Prod.fst hc
 simp only [e2] at e3
 rw [hrun, e1]
 have e4 : (if x ∈ l then ((l.idxOf x : Nat) : Int) else 0) = c := by
  simp only [Lit.int.injEq, DataW.lit.injEq, true_and] at e3
  exact e3
 rw [e4]
theorem tX.len {w : World} {b n : Nat} {l : List Int} (h : tX w b n l) : (Builtin.len_ #[171] 3 #[.map (some b)]).run Try.prog w = .ok (.int .i64 (l.length : Nat)) w := by
 obtain ⟨D, h1, h2, h3⟩ := h
 have hrun := h1.len vL 3
 rw [h2] at hrun
 exact hrun
theorem kS {w : World} {ops : Array Oper} {rest : List Oper} {o : Oper} {a : Act} {Q : Exit → Act → World → Prop} (hg : o.guard = none) (m x v : Operand) (hop : o.op = Op.mapUpdate 171 m x v)
  (b n : Nat) (l : List Int) (z : Int) (hm : a.eval m = .map (some b)) (hx : a.eval x = .int .i64 z) (hv : a.eval v = .int .i64 (l.length : Nat)) (h : tX w b n l) (hn : n < maxLen) (hz : Mid z) (hnew : z ∉ l) (hll : l.length < 4611686018427387904)
  (hK : ∀ w', tX w' b (n + 1) (l ++ [z]) → w.grownBy w' (some b) → wpList Try.prog ops Q rest (a.put o.dst undef) w') :
  wpList Try.prog ops Q (o :: rest) a w := by
 obtain ⟨D, h1, h2, h3⟩ := h
 obtain ⟨w', hrun, hown, hgr⟩ := h1.update key_int vL hn (mid_key hz) (plainElem_int vW (mid_wf (x := ((l.length : Nat) : Int)) ⟨by omega, by omega⟩))
 have hkz : WideAt.IsKeyLit (.int .i64 z) := by simp [WideAt.IsKeyLit]
 refine wpList_plain hg fun K' hK' => ?_
 unfold Oper.wp
 simp [execOp, hop, hm, hx, hv, hrun, Result.andThen]
 refine hK' _ _ (hK w' ⟨_, hown, ?_, fun y hy => ?_⟩ hgr)
 ·rw [size_put (h1.tidy key_int), (h3 z hz).1, decide_eq_false hnew, h2]; simp
 ·by_cases e : y = z
  ·subst e
   refine ⟨by rw [has_put_same h1.isMap hkz]; simp, ?_⟩
   rw [atKey_put_same h1.isMap hkz, if_pos (by simp), List.idxOf_append, if_neg hnew]
   simp
  ·have hne : (Lit.int .i64 y) ≠ Lit.int .i64 z := by intro h; injection h with _ h; exact e h
   obtain ⟨e1, e2⟩ := h3 y hy
   refine ⟨by rw [has_put_other hne, e1]; simp [e], ?_⟩
   rw [atKey_put_other hne, e2]
   by_cases hyl : y ∈ l
   ·rw [if_pos hyl, if_pos (by simp [hyl]), List.idxOf_append, if_pos hyl]
   ·rw [if_neg hyl, if_neg (by simp [hyl, e])]
def sD (l : List Nat) (k : Nat) : List Nat := l.take k ++ List.replicate (l.length - k) 0
theorem fillTo_zero (l : List Nat) : sD l 0 = List.replicate l.length 0 := by simp [sD]
theorem fillTo_end (l : List Nat) : sD l l.length = l := by simp [sD]
theorem fillTo_length {l : List Nat} {k : Nat} (h : k ≤ l.length) : (sD l k).length = l.length := by simp [sD]; omega
theorem fillTo_set {l : List Nat} {k : Nat} (h : k < l.length) : (sD l k).set k (l.getD k 0) = sD l (k + 1) := by
 have hl : (l.take k).length = k := by simp; omega
 unfold sD
 rw [List.set_append_right _ _ (by omega), hl, Nat.sub_self, yD (d := 0) h, show l.length - k = (l.length - (k + 1)) + 1 by omega, List.replicate_succ, List.set_cons_zero, List.append_assoc]
 rfl
def NumOk (w : World) (p : List Nat) (e : Ending) (w' : World) : Prop :=
 ∃ g, e = .returned (.slice (some ⟨g, 0, none⟩) p.length p.length) ∧ w.heap.size ≤ g ∧ Arr w' g 3 (nats p) ∧ w.grownBy w' none
end Go.Proofs.Ytjfdomfendbhfaa
namespace Go.Proofs.Ytjfdomfendbhfaa
open Go.RowKit
structure DAt (B : Nat) (w : World) (d : DfaV) (n k fb fo fc b off cap : Nat) (RB RO RC : Nat → Nat) : Prop where
 ok : VD d n k
 flt : fb < B
 frow : wO w fb fo (bls d.final)
 fcap : n ≤ fc ∧ fc ≤ maxLen
 blt : b < B
 bltw : b < w.heap.size
 cap : n ≤ cap ∧ cap ≤ maxLen
 hd : ∀ q, q < n → w.cell? ⟨b, off + q, none⟩ = some (.slice (some ⟨RB q, RO q, none⟩) k (RC q))
 el : ∀ q a, q < n → a < k → w.cell? ⟨RB q, RO q + a, none⟩ = some (.int .i64 ((nx d q a : Nat) : Int))
 rlt : ∀ q, q < n → RB q < B ∧ RB q < w.heap.size
 rcap : ∀ q, q < n → k ≤ RC q ∧ RC q ≤ maxLen
theorem DAt.kept {B : Nat} {w w' : World} {d : DfaV} {n k fb fo fc b off cap : Nat} {RB RO RC : Nat → Nat} {row : Option Nat} (h : DAt B w d n k fb fo fc b off cap RB RO RC) (hg : w.grownBy w' row) (hr : ∀ k, row = some k → B ≤ k) : DAt B w' d n k fb fo fc b off cap RB RO RC where
 ok := h.ok
 flt := h.flt
 frow := h.frow.kept hg (fun e => by have := hr _ e; have := h.flt; omega)
 fcap := h.fcap
 blt := h.blt
 bltw := Nat.lt_of_lt_of_le h.bltw hg.size
 cap := h.cap
 hd := fun q hq => (World.cell?_of_block (hg.block b h.bltw (fun e => by have := hr b e.symm; have := h.blt; omega))).trans (h.hd q hq)
 el := fun q a hq ha => (World.cell?_of_block (hg.block (RB q) (h.rlt q hq).2 (fun e => by have := hr _ e.symm; have := (h.rlt q hq).1; omega))).trans (h.el q a hq ha)
 rlt := fun q hq => ⟨(h.rlt q hq).1, Nat.lt_of_lt_of_le (h.rlt q hq).2 hg.size⟩
 rcap := h.rcap
theorem DAt.fin {B : Nat} {w : World} {d : DfaV} {n k fb fo fc b off cap : Nat} {RB RO RC : Nat → Nat} (h : DAt B w d n k fb fo fc b off cap RB RO RC) {q : Nat} (hq : q < n) : w.cell? ⟨fb, fo + q, none⟩ = some (.bool (d.final.getD q false)) := by
 have hl := h.ok.hn
 have := wO.map h.frow q (by omega)
 rw [this, zF (by omega)]
def dAgg (k st fb fo fc b off cap n : Nat) : Value := .agg #[.int .i64 (k : Int), .int .i64 (st : Int), .slice (some ⟨fb, fo, none⟩) n fc, .slice (some ⟨b, off, none⟩) n cap]
theorem tY.at {B : Nat} {w : World} {v : Value} {d : DfaV} {n k : Nat} (h : tY B w v d) (hd : VD d n k) :
  ∃ fb fo fc b off cap RB RO RC, v = dAgg k (st0 d) fb fo fc b off cap n ∧ DAt B w d n k fb fo fc b off cap RB RO RC := by
 obtain ⟨fv, nv, rfl, hf, hn⟩ := h
 obtain ⟨fb, fo, fc, rfl, h1, h2, h3, h4⟩ := hf.some_ (by rw [yN, hd.hn]; exact hd.n1)
 obtain ⟨b, off, cap, A, C, rfl, k1, k2, k3⟩ := hn.some_ (by rw [hd.nl]; exact hd.n1)
 have hr : ∀ q, ∃ rb ro, q < n → A q = some ⟨rb, ro, none⟩ ∧ rb < B ∧ k ≤ C q ∧ C q ≤ maxLen ∧ wO w rb ro (ints (d.next.getD q [])) := by
  intro q
  by_cases hq : q < n
  ·have hl := hd.row q hq
   obtain ⟨rb, ro, c, e, h4, h5, h6, h7⟩ := (k3.row q (by rw [hd.nl]; exact hq)).some_ (by rw [xG, hl]; exact hd.k1)
   simp only [Value.slice.injEq] at e
   rw [xG, hl] at h5
   exact ⟨rb, ro, fun _ => ⟨e.1, h4, by rw [e.2.2]; exact h5, by rw [e.2.2]; exact h6, h7⟩⟩
  ·exact ⟨0, 0, fun h => absurd h hq⟩
 obtain ⟨RB, hRB⟩ := Classical.axiomOfChoice hr
 obtain ⟨RO, hRO⟩ := Classical.axiomOfChoice hRB
 rw [yN, hd.hn] at h2
 rw [hd.nl] at k1
 refine ⟨fb, fo, fc, b, off, cap, RB, RO, C, ?_, hd, h1, h4, ⟨h2, h3⟩, k3.lt, k3.ltw, ⟨k1, k2⟩, fun q hq => ?_, fun q a hq ha => ?_, fun q hq => ?_, fun q hq => ?_⟩
 ·rw [dAgg, st0_cast hd, hd.hk, yN, hd.hn, hd.nl]
 ·rw [k3.hd q (by rw [hd.nl]; exact hq), (hRO q hq).1, hd.row q hq]
 ·rw [(hRO q hq).2.2.2.2.int a (by rw [hd.row q hq]; exact ha), nx_cast hd hq ha]
  rfl
 ·have := hRO q hq
  exact ⟨this.2.1, this.2.2.2.2.1⟩
 ·have := hRO q hq
  exact ⟨this.2.2.1, this.2.2.2.1⟩
theorem zG {w : World} {p : Nat} {x0 x1 x2 x3 : Value} {e : Nat} (h : w.heap[p]? = some (.cells #[x0, x1, x2, x3] e (0, 0))) :
  w.cell? ⟨p, 0, none⟩ = some x0 ∧ w.cell? ⟨p, 1, none⟩ = some x1 ∧ w.cell? ⟨p, 2, none⟩ = some x2 ∧ w.cell? ⟨p, 3, none⟩ = some x3 := by
 have c0 := zI h 0 (by simp)
 have c1 := zI h 1 (by simp)
 have c2 := zI h 2 (by simp)
 have c3 := zI h 3 (by simp)
 simp only [List.getElem_toArray, List.getElem_cons_zero, List.getElem_cons_succ] at c0 c1 c2 c3
 exact ⟨c0, c1, c2, c3⟩
end Go.Proofs.Ytjfdomfendbhfaa
