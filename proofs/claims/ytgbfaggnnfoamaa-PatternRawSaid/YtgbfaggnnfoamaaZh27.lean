/- Part 27 of the proof: SigPlain, MapK, SigKey. -/
import Derived.Test.YtgbfaggnnfoamaaZh26
import Derived.DeepKeys4
set_option linter.unusedVariables false
set_option linter.unusedSimpArgs false
namespace Go.Proofs.Ytgbfaggnnfoamaa
def rZ (d : DfaV) (p : List Nat) (q x : Nat) : List Nat := (p.getD q 0 :: (List.range x).map fun a => p.getD (nx d q a) 0) ++ List.replicate (6 - x) 0
theorem sS {d : DfaV} {p : List Nat} {q x : Nat} (h : x ≤ 6) : (rZ d p q x).length = 7 := by simp [rZ]; omega
theorem sigTo_set {d : DfaV} {p : List Nat} {q x : Nat} (h : x < 6) : (rZ d p q x).set (1 + x) (p.getD (nx d q x) 0) = rZ d p q (x + 1) := by
 unfold rZ
 rw [List.set_append_right _ _ (by simp; omega), List.range_succ, List.map_append, show 6 - x = (6 - (x + 1)) + 1 by omega, List.replicate_succ]
 simp [Nat.add_comm]
theorem sigTo_lt {d : DfaV} {p : List Nat} {q x N : Nat} (h : ∀ c ∈ p, c < N) (hN : 0 < N) : ∀ y ∈ rZ d p q x, y < N := by
 intro y hy
 rcases List.mem_append.1 hy with hy | hy
 ·rcases List.mem_cons.1 hy with rfl | hy
  ·exact uP h hN
  ·obtain ⟨a, _, rfl⟩ := List.mem_map.1 hy
   exact uP h hN
 ·rw [List.mem_replicate] at hy; omega
theorem sigTo_iff {d : DfaV} {p : List Nat} {q q' k : Nat} : rZ d p q k = rZ d p q' k ↔ p.getD q 0 = p.getD q' 0 ∧ ∀ a, a < k → p.getD (nx d q a) 0 = p.getD (nx d q' a) 0 := by
 unfold rZ
 constructor
 ·intro h
  have h := List.append_cancel_right h
  rw [List.cons.injEq, List.map_inj_left] at h
  exact ⟨h.1, fun a ha => h.2 a (List.mem_range.2 ha)⟩
 ·rintro ⟨h1, h2⟩
  rw [h1, List.map_congr_left (fun a ha => h2 a (List.mem_range.1 ha))]
def sigL (d : DfaV) (k : Nat) (p : List Nat) : List (List Nat) := (List.range p.length).map fun q => rZ d p q k
theorem qM (d : DfaV) (k : Nat) (p : List Nat) : (sigL d k p).length = p.length := by simp [sigL]
theorem kC {d : DfaV} {k : Nat} {p : List Nat} {q : Nat} (h : q < p.length) : (sigL d k p)[q]'(by rw [qM]; exact h) = rZ d p q k := by simp [sigL]
theorem sig_refTo {d : DfaV} {n k : Nat} (hd : VD d n k) {p : List Nat} (hp : p.length = n) (hn : Norm p) : numb (sigL d k p) = wN d p k := by
 have hlt : ∀ c ∈ p, c < n := by have := rA hn; rwa [hp] at this
 have hl := qM d k p
 refine kI (mH _) (rP hn k) ⟨by rw [yF, hl, yM], fun i j hi hj => ?_⟩
 rw [yF, hl] at hi hj
 rw [sA (by omega) (by omega), kC hi, kC hj, sigTo_iff, uS hd hp hlt (by omega) (by omega) k (Nat.le_refl _)]
theorem numb_stepG {α : Type} [DecidableEq α] {l : List α} {k : Nat} (hk : k < l.length) : (numb l).getD k 0 = if l[k] ∈ zT (l.take k) then (zT (l.take k)).idxOf l[k] else (zT (l.take k)).length := by
 rw [zI (by rw [yF]; exact hk), tC hk, ← jF hk, List.take_succ_eq_append_getElem hk, vE]
 by_cases h : l[k] ∈ zT (l.take k)
 ·rw [wS h, if_pos h]
 ·rw [xP h, if_neg h, List.idxOf_append, if_neg h]; simp
theorem mJ {α : Type} [DecidableEq α] {l : List α} {k : Nat} (hk : k < l.length) : zT (l.take (k + 1)) = yR (zT (l.take k)) l[k] := by
 rw [List.take_succ_eq_append_getElem hk, vE]
theorem cls_numb {α : Type} [DecidableEq α] (l : List α) : cls (numb l) = (zT l).length := by
 unfold cls numb
 rw [firsts_map_inj _ _ (fun x hx y _ h => idxOf_inj (xG.2 hx) h), List.length_map]
def xW (d : DfaV) (q : Nat) : List Nat := (List.range q).map fun i => if d.final.getD i false = d.final.getD 0 false then 0 else 1
def fstC (d : DfaV) (q : Nat) : Nat := if (xW d q).all (· == 0) then 1 else 2
def fstF (d : DfaV) (n q : Nat) : List Nat := xW d q ++ List.replicate (n - q) 0
theorem qU {d : DfaV} {n q : Nat} (h : q ≤ n) : (fstF d n q).length = n := by simp [fstF, xW]; omega
theorem fstF_same {d : DfaV} {n q : Nat} (h : q < n) (e : d.final.getD q false = d.final.getD 0 false) : fstF d n (q + 1) = fstF d n q ∧ fstC d (q + 1) = fstC d q := by
 have h1 : xW d (q + 1) = xW d q ++ [0] := by
  simp only [xW, List.range_succ, List.map_append, List.map_cons, List.map_nil, if_pos e]
 constructor
 ·unfold fstF
  rw [h1, show n - q = (n - (q + 1)) + 1 by omega, List.replicate_succ, List.append_assoc]
  rfl
 ·unfold fstC
  rw [h1, List.all_append]; simp
theorem fstF_diff {d : DfaV} {n q : Nat} (h : q < n) (e : d.final.getD q false ≠ d.final.getD 0 false) : fstF d n (q + 1) = (fstF d n q).set q 1 ∧ fstC d (q + 1) = 2 := by
 have h1 : xW d (q + 1) = xW d q ++ [1] := by
  simp only [xW, List.range_succ, List.map_append, List.map_cons, List.map_nil, if_neg e]
 have hl : (xW d q).length = q := by simp [xW]
 constructor
 ·unfold fstF
  rw [h1, List.set_append_right _ _ (by omega), hl, Nat.sub_self, show n - q = (n - (q + 1)) + 1 by omega, List.replicate_succ, List.set_cons_zero, List.append_assoc]
  rfl
 ·unfold fstC
  rw [h1, List.all_append]; simp
theorem fst_part0 {d : DfaV} {n k : Nat} (hd : VD d n k) : xW d n = pJ d ∧ fstC d n = cls (pJ d) := by
 have hl : (xW d n).length = n := by simp [xW]
 have hg : ∀ i, i < n → (xW d n).getD i 0 = if d.final.getD i false = d.final.getD 0 false then 0 else 1 := fun i hi => by
  rw [zI (by omega)]; simp [xW]
 have hker : ∀ i j, i < n → j < n → ((xW d n).getD i 0 = (xW d n).getD j 0 ↔ (pJ d).getD i 0 = (pJ d).getD j 0) := fun i j hi hj => by
  rw [hg i hi, hg j hj, mD hd hi hj]
  cases d.final.getD i false <;> cases d.final.getD j false <;> cases d.final.getD 0 false <;> simp
 have hp0 := sY d
 have hn1 := hd.n1
 have hnorm : Norm (xW d n) := by
  -- the first one is 0; what differs from it is 1
  unfold Norm
  have h0 : (xW d n).getD 0 0 = 0 := by rw [hg 0 (by omega), if_pos rfl]
  refine List.ext_getElem (yF _) fun i h1 h2 => ?_
  have hi : i < n := by omega
  rw [tC h2]
  have key : ∀ m, 0 < m → m ≤ n → zT ((xW d n).take m) = if (∃ j, j < m ∧ (xW d n).getD j 0 = 1) then [0, 1] else [0] := by
   intro m hm hmn
   induction m with
   | zero => omega
   | succ m ih =>
    have hm' : m < (xW d n).length := by omega
    rw [mJ hm', ← zI (d := 0) hm']
    have h01 : (xW d n).getD m 0 = 0 ∨ (xW d n).getD m 0 = 1 := by rw [hg m (by omega)]; split <;> simp
    by_cases hm0 : m = 0
    ·subst hm0
     rw [h0]
     have : ¬ ∃ j, j < 0 + 1 ∧ (xW d n).getD j 0 = 1 := by
      rintro ⟨j, hj, e⟩
      have : j = 0 := by omega
      subst this; omega
     rw [if_neg this]; rfl
    ·rw [ih (by omega) (by omega)]
     by_cases hex : ∃ j, j < m ∧ (xW d n).getD j 0 = 1
     ·have hex2 : ∃ j, j < m + 1 ∧ (xW d n).getD j 0 = 1 := hex.imp fun j h => ⟨by omega, h.2⟩
      rw [if_pos hex, if_pos hex2]
      rcases h01 with e | e <;> rw [e] <;> rfl
     ·rw [if_neg hex]
      rcases h01 with e | e
      ·have hex2 : ¬ ∃ j, j < m + 1 ∧ (xW d n).getD j 0 = 1 := by
        rintro ⟨j, hj, e2⟩
        rcases Nat.lt_succ_iff_lt_or_eq.1 hj with hj | rfl
        ·exact hex ⟨j, hj, e2⟩
        ·omega
       rw [if_neg hex2, e]; rfl
      ·rw [if_pos ⟨m, by omega, e⟩, e]; rfl
  have hk := key n (by omega) (Nat.le_refl _)
  rw [show (xW d n).take n = xW d n by rw [List.take_of_length_le (by omega)]] at hk
  rw [hk]
  have h01 : (xW d n).getD i 0 = 0 ∨ (xW d n).getD i 0 = 1 := by rw [hg i hi]; split <;> simp
  rw [zI h2] at h01
  rcases h01 with e | e
  ·rw [e]; split <;> rfl
  ·rw [e, if_pos ⟨i, hi, by rw [zI h2, e]⟩]; rfl
 have heq : xW d n = pJ d := kI hnorm (lO d) ⟨by rw [hl, hp0, hd.hn], fun i j hi hj => hker i j (by omega) (by omega)⟩
 refine ⟨heq, ?_⟩
 rw [← heq]
 unfold fstC
 by_cases ha : (xW d n).all (· == 0) = true
 ·rw [if_pos ha]
  have : xW d n = List.replicate n 0 := by
   refine List.eq_replicate_iff.2 ⟨hl, fun x hx => ?_⟩
   simpa using List.all_eq_true.1 ha x hx
  rw [this]
  have h1 : (zT (List.replicate n 0)) ⊆ [0] := fun x hx => by
   have := xG.1 hx
   rw [List.mem_replicate] at this
   simp [this.2]
  have h2 := (uC (List.replicate n 0)).length_le_of_subset h1
  have h3 := kO (p := List.replicate n 0) (by simp; omega)
  unfold cls at h3 ⊢
  simp at h2
  omega
 ·rw [if_neg ha]
  have h1 : zT (xW d n) ⊆ [0, 1] := fun x hx => by
   obtain ⟨i, _, rfl⟩ := List.mem_map.1 (xG.1 hx)
   split <;> simp
  have h2 := (uC (xW d n)).length_le_of_subset h1
  have hn1 : ∃ x ∈ xW d n, x ≠ 0 := by
   apply Classical.byContradiction
   intro hno
   exact ha (List.all_eq_true.2 fun x hx => by
    have : x = 0 := Classical.byContradiction fun h => hno ⟨x, hx, h⟩
    simp [this])
  obtain ⟨x, hx, hx0⟩ := hn1
  have hx1 : x = 1 := by
   obtain ⟨i, _, rfl⟩ := List.mem_map.1 hx
   split at hx0
   ·omega
   ·rename_i h; rw [if_neg h]
  have h0m : 0 ∈ xW d n := by
   rw [xW, List.mem_map]
   exact ⟨0, List.mem_range.2 (by omega), if_pos rfl⟩
  have h3 : [0, 1] ⊆ zT (xW d n) := fun y hy => by
   simp only [List.mem_cons, List.not_mem_nil, or_false] at hy
   rcases hy with rfl | rfl
   ·exact xG.2 h0m
   ·exact xG.2 (hx1 ▸ hx)
  have h4 := (show [0, 1].Nodup by decide).length_le_of_subset h3
  unfold cls
  simp at h2 h4
  omega
theorem clsIt_sig {d : DfaV} {n k : Nat} (hd : VD d n k) (m : Nat) : numb (sigL d k (yG d k m)) = yG d k (m + 1) := sig_refTo hd (by rw [yI, hd.hn]) (wR d k m)
theorem clsIt_stop {d : DfaV} {n k : Nat} (hd : VD d n k) {m : Nat} (hm : m ≤ n) (h : cls (yG d k (m + 1)) = cls (yG d k m)) : yG d k (m + 1) = yK d k := by
 have e : wN d (yG d k m) k = yG d k m := Classical.byContradiction fun hne => by
  have := tZ hd (by rw [yI, hd.hn]) (wR d k m) hne
  rw [yG] at h
  omega
 rw [tO (by rw [hd.hn]; exact hm) e, yG, e]
theorem clsIt_more {d : DfaV} {n k : Nat} (hd : VD d n k) {m : Nat} (h : cls (yG d k (m + 1)) ≠ cls (yG d k m)) : cls (yG d k m) < cls (yG d k (m + 1)) := by
 have e : wN d (yG d k m) k ≠ yG d k m := fun e => h (by rw [yG, e])
 exact tZ hd (by rw [yI, hd.hn]) (wR d k m) e
theorem cls_le_n {d : DfaV} {n k : Nat} (hd : VD d n k) (m : Nat) : cls (yG d k m) ≤ n := by
 have := nD (yG d k m)
 rwa [yI, hd.hn] at this
end Go.Proofs.Ytgbfaggnnfoamaa
namespace Go.Proofs.Ytgbfaggnnfoamaa
open Go.RowKit Go.Maps
structure KeyK {α : Type} (mt kt : TypeId) (V : α → Prop) (kv : α → Value) : Prop where
 key : Keyed Try.prog kt
 und : Try.prog.underlying mt = some (.map kt 3)
 of : ∀ a, V a → (keyOf Try.prog kt (kv a)).isSome = true
 inj : ∀ a b, V a → V b → kv a = kv b → a = b
section
variable {α : Type} {mt kt : TypeId} {V : α → Prop} {kv : α → Value}
def MapK (kt : TypeId) (V : α → Prop) (kv : α → Value) (w : World) (b n c : Nat) (f : α → Option Nat) : Prop :=
 ∃ D : DataW Unit, w.ownsMap Try.prog kt (plainElem Try.prog 3) b n D ∧ size D = c ∧
  ∀ a l, V a → keyOf Try.prog kt (kv a) = some l → has D l = (f a).isSome ∧ D.atKey l (.lit (.int .i64 0)) = .lit (.int .i64 (((f a).getD 0 : Nat) : Int))
theorem MapK.made (kt : TypeId) (V : α → Prop) (kv : α → Value) (w : World) : MapK kt V kv (w.alloc (.map #[] 0)) w.heap.size 0 0 (fun _ => none) := by
 refine ⟨.map [], World.ownsMap_made _ _ _ _, rfl, fun x _ _ _ => ⟨by simp [has_eq], ?_⟩⟩
 rw [WideAt.atKey_none _ (by simp)]
 simp
variable {w w' : World} {b n c : Nat} {f : α → Option Nat}
theorem MapK.kept {row : Option Nat} (h : MapK kt V kv w b n c f) (hg : w.grownBy w' row) (hne : row ≠ some b) : MapK kt V kv w' b n c f := by
 obtain ⟨D, h1, h2, h3⟩ := h
 exact ⟨D, h1.kept hg (fun e => hne e.symm), h2, h3⟩
theorem MapK.mono {n' : Nat} (h : MapK kt V kv w b n c f) (hn : n ≤ n') : MapK kt V kv w b n' c f := by
 obtain ⟨D, h1, h2, h3⟩ := h
 exact ⟨D, h1.mono hn, h2, h3⟩
theorem MapK.lt (h : MapK kt V kv w b n c f) : b < w.heap.size := by
 obtain ⟨D, h1, _⟩ := h
 exact h1.lt
theorem MapK.obj (h : MapK kt V kv w b n c f) : ∃ es clock, w.heap[b]? = some (.map es clock) := by
 obtain ⟨D, ⟨es, clock, hb, _⟩, _⟩ := h
 exact ⟨es, clock, hb⟩
theorem MapK.lookup (h : MapK kt V kv w b n c f) (K : KeyK mt kt V kv) {x : α} (hx : V x) : (Instr.lookup mt (.map (some b)) (kv x) true).run Try.prog w = .ok (.tuple #[.int .i64 (((f x).getD 0 : Nat) : Int), .bool (f x).isSome]) w := by
 obtain ⟨D, h1, h2, h3⟩ := h
 obtain ⟨kl, hkl⟩ := Option.isSome_iff_exists.1 (K.of x hx)
 obtain ⟨v, ps, hrun, hv⟩ := h1.look_ok K.key K.und (nJ w) (plainElem_int uB (by decide)) hkl
 obtain ⟨c, rfl, hc, _⟩ := plainElem_int_inv uB hv
 obtain ⟨e1, e2⟩ := h3 x kl hx hkl
 have e3 := congrArg Prod.fst hc
 simp only [e2] at e3
 rw [hrun, e1]
 have e4 : (((f x).getD 0 : Nat) : Int) = c := by
  simp only [Lit.int.injEq, DataW.lit.injEq, true_and] at e3
  exact e3
 rw [e4]
theorem MapK.look1 (h : MapK kt V kv w b n c f) (K : KeyK mt kt V kv) {x : α} (hx : V x) : (Instr.lookup mt (.map (some b)) (kv x) false).run Try.prog w = .ok (.int .i64 (((f x).getD 0 : Nat) : Int)) w := by
 obtain ⟨D, h1, h2, h3⟩ := h
 obtain ⟨kl, hkl⟩ := Option.isSome_iff_exists.1 (K.of x hx)
 obtain ⟨c, hrun, hat, _⟩ := h1.lookup_int K.key K.und uB (nJ w) hkl
 rw [hrun]
 rw [(h3 x kl hx hkl).2] at hat
 have e4 : (((f x).getD 0 : Nat) : Int) = c := by
  simp only [Lit.int.injEq, DataW.lit.injEq, true_and] at hat
  exact hat
 rw [e4]
theorem MapK.len (h : MapK kt V kv w b n c f) (K : KeyK mt kt V kv) : (Builtin.len_ #[mt] 3 #[.map (some b)]).run Try.prog w = .ok (.int .i64 (c : Nat)) w := by
 obtain ⟨D, h1, h2, h3⟩ := h
 have hrun := h1.len K.und 3
 rw [h2] at hrun
 exact hrun
theorem kT [DecidableEq α] {ops : Array Oper} {rest : List Oper} {o : Oper} {a : Act} {Q : Exit → Act → World → Prop} (K : KeyK mt kt V kv) (hg : o.guard = none) (m x v : Operand) (hop : o.op = Op.mapUpdate mt m x v)
  (b n c : Nat) (f : α → Option Nat) (z : α) (y : Nat) (hm : a.eval m = .map (some b)) (hx : a.eval x = kv z) (hv : a.eval v = .int .i64 (y : Int)) (h : MapK kt V kv w b n c f) (hn : n < maxLen) (hz : V z) (hy : y < 4611686018427387904)
  (hK : ∀ w', MapK kt V kv w' b (n + 1) (if (f z).isSome then c else c + 1) (fun q => if q = z then some y else f q) → w.grownBy w' (some b) → wpList Try.prog ops Q rest (a.put o.dst undef) w') :
  wpList Try.prog ops Q (o :: rest) a w := by
 obtain ⟨D, h1, h2, h3⟩ := h
 obtain ⟨kl, hkl⟩ := Option.isSome_iff_exists.1 (K.of z hz)
 obtain ⟨w', hrun, hown, hgr⟩ := h1.update K.key K.und hn hkl (plainElem_int uB (mid_wf (x := (y : Int)) ⟨by omega, by omega⟩))
 refine wpList_plain hg fun K' hK' => ?_
 unfold Oper.wp
 simp [execOp, hop, hm, hx, hv, hrun, Result.andThen]
 refine hK' _ _ (hK w' ⟨_, hown, ?_, fun q ql hq hql => ?_⟩ hgr)
 ·rw [size_put (h1.tidy K.key), (h3 z kl hz hkl).1, h2]
 ·by_cases e : q = z
  ·subst e
   rw [hkl] at hql
   cases hql
   refine ⟨by rw [has_put_same h1.isMap (K.key.key hkl)]; simp, ?_⟩
   simp only [if_pos]
   rw [atKey_put_same h1.isMap (K.key.key hkl)]; rfl
  ·have hne : ql ≠ kl := fun h => e (K.inj q z hq hz (K.key.inj (hql.trans (congrArg some h)) hkl))
   obtain ⟨e1, e2⟩ := h3 q ql hq hql
   simp only [if_neg e]
   exact ⟨by rw [has_put_other hne, e1], by rw [atKey_put_other hne, e2]⟩
end
end Go.Proofs.Ytgbfaggnnfoamaa
namespace Go.Proofs.Ytgbfaggnnfoamaa
open Go.RowKit Go.Maps
theorem nW : Try.prog.underlying 111 = some (.array 7 3) := by kernel_rfl
theorem sigmap_under : Try.prog.underlying 109 = some (.map 111 3) := by kernel_rfl
theorem sig_keyed : Keyed Try.prog 111 := Keyed.of_law (deep_law_laid (m := 5) (by kernel_rfl) (by decide) (of_decide_eq_true (by kernel_rfl)) (by kernel_rfl) (by kernel_rfl))
theorem nat_wf {x : Nat} (hx : x < 4611686018427387904) : (Lit.int .i64 (x : Int)).wf = true := mid_wf (x := (x : Int)) ⟨by omega, by omega⟩
theorem uM (d : Nat) {x : Nat} (hx : x < 4611686018427387904) : Try.prog.keyLits (d + 1) 3 [.int .i64 (x : Int)] = some [.int .i64 (x : Int)] := by
 unfold Program.keyLits
 rw [uB]
 simp [nat_wf hx]
def sigV (L : List Nat) : Value := .agg #[.int .i64 ((L.getD 0 0 : Nat) : Int), .int .i64 ((L.getD 1 0 : Nat) : Int), .int .i64 ((L.getD 2 0 : Nat) : Int), .int .i64 ((L.getD 3 0 : Nat) : Int), .int .i64 ((L.getD 4 0 : Nat) : Int), .int .i64 ((L.getD 5 0 : Nat) : Int), .int .i64 ((L.getD 6 0 : Nat) : Int)]
def SigOk (L : List Nat) : Prop := L.length = 7 ∧ ∀ x ∈ L, x < 4611686018427387904
theorem kV : Try.prog.cellsOf 111 = 7 := by kernel_rfl
theorem jQ : Try.prog.cellsOf 3 = 1 := by kernel_rfl
theorem sig_some {x0 x1 x2 x3 x4 x5 x6 : Nat} (h0 : x0 < 4611686018427387904) (h1 : x1 < 4611686018427387904) (h2 : x2 < 4611686018427387904) (h3 : x3 < 4611686018427387904) (h4 : x4 < 4611686018427387904) (h5 : x5 < 4611686018427387904) (h6 : x6 < 4611686018427387904) :
  (keyOf Try.prog 111 (.agg #[.int .i64 (x0 : Int), .int .i64 (x1 : Int), .int .i64 (x2 : Int), .int .i64 (x3 : Int), .int .i64 (x4 : Int), .int .i64 (x5 : Int), .int .i64 (x6 : Int)])).isSome = true := by
 have hk : Try.prog.keyType 111 = true := by kernel_rfl
 unfold keyOf
 rw [nW]
 simp only [hk, Bool.true_and]
 have hf : (Value.agg #[.int .i64 (x0 : Int), .int .i64 (x1 : Int), .int .i64 (x2 : Int), .int .i64 (x3 : Int), .int .i64 (x4 : Int), .int .i64 (x5 : Int), .int .i64 (x6 : Int)]).formed Try.prog 111 = true := by
  simp [Value.formed, nW, kV]
 rw [if_pos hf]
 have hl : Try.prog.keyLits (Try.prog.types.size + 1) 111 (Value.agg #[.int .i64 (x0 : Int), .int .i64 (x1 : Int), .int .i64 (x2 : Int), .int .i64 (x3 : Int), .int .i64 (x4 : Int), .int .i64 (x5 : Int), .int .i64 (x6 : Int)]).cells.toList = some [.int .i64 (x0 : Int), .int .i64 (x1 : Int), .int .i64 (x2 : Int), .int .i64 (x3 : Int), .int .i64 (x4 : Int), .int .i64 (x5 : Int), .int .i64 (x6 : Int)] := by
  have hz : Try.prog.types.size = (Try.prog.types.size - 1) + 1 := by kernel_rfl
  rw [hz]
  unfold Program.keyLits
  rw [nW]
  simp [Value.cells, kV, jQ, List.range, List.range.loop, uM _ h0, uM _ h1, uM _ h2, uM _ h3, uM _ h4, uM _ h5, uM _ h6]
 rw [hl]; rfl
theorem kB : KeyK 109 111 SigOk sigV where
 key := sig_keyed
 und := sigmap_under
 of := fun L h => by
  have hg : ∀ i, L.getD i 0 < 4611686018427387904 := fun i => by
   by_cases hi : i < L.length
   ·rw [zI hi]; exact h.2 _ (List.getElem_mem hi)
   ·rw [List.getD, List.getElem?_eq_none (by omega)]; simp
  exact sig_some (hg 0) (hg 1) (hg 2) (hg 3) (hg 4) (hg 5) (hg 6)
 inj := fun L M hL hM e => by
  simp only [sigV, Value.agg.injEq] at e
  have e := congrArg Array.toList e
  simp only [List.cons.injEq, Value.int.injEq, true_and, and_true] at e
  refine List.ext_getElem (by rw [hL.1, hM.1]) fun i h1 h2 => ?_
  rw [← zI (d := 0) h1, ← zI (d := 0) h2]
  have : i < 7 := by rw [← hL.1]; exact h1
  match i, this with
  | 0, _ => omega
  | 1, _ => omega
  | 2, _ => omega
  | 3, _ => omega
  | 4, _ => omega
  | 5, _ => omega
  | 6, _ => omega
end Go.Proofs.Ytgbfaggnnfoamaa
