/- Part 27 of the proof: MapK, SigKey. -/
import Derived.Test.YtgbfaggnnfoamaaZi26
import Derived.DeepKeys4
set_option linter.unusedVariables false
set_option linter.unusedSimpArgs false
namespace Go.Proofs.Ytgbfaggnnfoamaa
open Go.RowKit Go.Maps
structure KeyK {α : Type} (mt kt : TypeId) (V : α → Prop) (kv : α → Value) : Prop where
 key : Keyed Try.prog kt
 und : Try.prog.underlying mt = some (.map kt 3)
 of : ∀ a, V a → (keyOf Try.prog kt (kv a)).isSome = true
 inj : ∀ a b, V a → V b → kv a = kv b → a = b
section
variable {α : Type} {mt kt : TypeId} {V : α → Prop} {kv : α → Value}
def MapK (kt : TypeId) (V : α → Prop) (kv : α → Value) (w : World) (b n c : Nat) (f : α → Option Nat) : Prop :=
 ∃ D : DataW Unit, w.ownsMap Try.prog kt (plainElem Try.prog 3) b n D ∧ size D = c ∧
  ∀ a l, V a → keyOf Try.prog kt (kv a) = some l → has D l = (f a).isSome ∧ D.atKey l (.lit (.int .i64 0)) = .lit (.int .i64 (((f a).getD 0 : Nat) : Int))
theorem MapK.made (kt : TypeId) (V : α → Prop) (kv : α → Value) (w : World) : MapK kt V kv (w.alloc (.map #[] 0)) w.heap.size 0 0 (fun _ => none) := by
 refine ⟨.map [], World.ownsMap_made _ _ _ _, rfl, fun x _ _ _ => ⟨by simp [has_eq], ?_⟩⟩
 rw [WideAt.atKey_none _ (by simp)]
 simp
variable {w w' : World} {b n c : Nat} {f : α → Option Nat}
theorem MapK.kept {row : Option Nat} (h : MapK kt V kv w b n c f) (hg : w.grownBy w' row) (hne : row ≠ some b) : MapK kt V kv w' b n c f := by
 obtain ⟨D, h1, h2, h3⟩ := h
 exact ⟨D, h1.kept hg (fun e => hne e.symm), h2, h3⟩
theorem MapK.mono {n' : Nat} (h : MapK kt V kv w b n c f) (hn : n ≤ n') : MapK kt V kv w b n' c f := by
 obtain ⟨D, h1, h2, h3⟩ := h
 exact ⟨D, h1.mono hn, h2, h3⟩
theorem MapK.lt (h : MapK kt V kv w b n c f) : b < w.heap.size := by
 obtain ⟨D, h1, _⟩ := h
 exact h1.lt
theorem MapK.obj (h : MapK kt V kv w b n c f) : ∃ es clock, w.heap[b]? = some (.map es clock) := by
 obtain ⟨D, ⟨es, clock, hb, _⟩, _⟩ := h
 exact ⟨es, clock, hb⟩
theorem MapK.lookup (h : MapK kt V kv w b n c f) (K : KeyK mt kt V kv) {x : α} (hx : V x) : (Instr.lookup mt (.map (some b)) (kv x) true).run Try.prog w = .ok (.tuple #[.int .i64 (((f x).getD 0 : Nat) : Int), .bool (f x).isSome]) w := by
 obtain ⟨D, h1, h2, h3⟩ := h
 obtain ⟨kl, hkl⟩ := Option.isSome_iff_exists.1 (K.of x hx)
 obtain ⟨v, ps, hrun, hv⟩ := h1.look_ok K.key K.und (nO w) (plainElem_int uC (by decide)) hkl
 obtain ⟨c, rfl, hc, _⟩ := plainElem_int_inv uC hv
 obtain ⟨e1, e2⟩ := h3 x kl hx hkl
 have e3 := congrArg Prod.fst hc
 simp only [e2] at e3
 rw [hrun, e1]
 have e4 : (((f x).getD 0 : Nat) : Int) = c := by
  simp only [Lit.int.injEq, DataW.lit.injEq, true_and] at e3
  exact e3
 rw [e4]
theorem MapK.look1 (h : MapK kt V kv w b n c f) (K : KeyK mt kt V kv) {x : α} (hx : V x) : (Instr.lookup mt (.map (some b)) (kv x) false).run Try.prog w = .ok (.int .i64 (((f x).getD 0 : Nat) : Int)) w := by
 obtain ⟨D, h1, h2, h3⟩ := h
 obtain ⟨kl, hkl⟩ := Option.isSome_iff_exists.1 (K.of x hx)
 obtain ⟨c, hrun, hat, _⟩ := h1.lookup_int K.key K.und uC (nO w) hkl
 rw [hrun]
 rw [(h3 x kl hx hkl).2] at hat
 have e4 : (((f x).getD 0 : Nat) : Int) = c := by
  simp only [Lit.int.injEq, DataW.lit.injEq, true_and] at hat
  exact hat
 rw [e4]
theorem MapK.len (h : MapK kt V kv w b n c f) (K : KeyK mt kt V kv) : (Builtin.len_ #[mt] 3 #[.map (some b)]).run Try.prog w = .ok (.int .i64 (c : Nat)) w := by
 obtain ⟨D, h1, h2, h3⟩ := h
 have hrun := h1.len K.und 3
 rw [h2] at hrun
 exact hrun
theorem jD [DecidableEq α] {ops : Array Oper} {rest : List Oper} {o : Oper} {a : Act} {Q : Exit → Act → World → Prop} (K : KeyK mt kt V kv) (hg : o.guard = none) (m x v : Operand) (hop : o.op = Op.mapUpdate mt m x v)
  (b n c : Nat) (f : α → Option Nat) (z : α) (y : Nat) (hm : a.eval m = .map (some b)) (hx : a.eval x = kv z) (hv : a.eval v = .int .i64 (y : Int)) (h : MapK kt V kv w b n c f) (hn : n < maxLen) (hz : V z) (hy : y < 4611686018427387904)
  (hK : ∀ w', MapK kt V kv w' b (n + 1) (if (f z).isSome then c else c + 1) (fun q => if q = z then some y else f q) → w.grownBy w' (some b) → wpList Try.prog ops Q rest (a.put o.dst undef) w') :
  wpList Try.prog ops Q (o :: rest) a w := by
 obtain ⟨D, h1, h2, h3⟩ := h
 obtain ⟨kl, hkl⟩ := Option.isSome_iff_exists.1 (K.of z hz)
 obtain ⟨w', hrun, hown, hgr⟩ := h1.update K.key K.und hn hkl (plainElem_int uC (mid_wf (x := (y : Int)) ⟨by omega, by omega⟩))
 refine wpList_plain hg fun K' hK' => ?_
 unfold Oper.wp
 simp [execOp, hop, hm, hx, hv, hrun, Result.andThen]
 refine hK' _ _ (hK w' ⟨_, hown, ?_, fun q ql hq hql => ?_⟩ hgr)
 ·rw [size_put (h1.tidy K.key), (h3 z kl hz hkl).1, h2]
 ·by_cases e : q = z
  ·subst e
   rw [hkl] at hql
   cases hql
   refine ⟨by rw [has_put_same h1.isMap (K.key.key hkl)]; simp, ?_⟩
   simp only [if_pos]
   rw [atKey_put_same h1.isMap (K.key.key hkl)]; rfl
  ·have hne : ql ≠ kl := fun h => e (K.inj q z hq hz (K.key.inj (hql.trans (congrArg some h)) hkl))
   obtain ⟨e1, e2⟩ := h3 q ql hq hql
   simp only [if_neg e]
   exact ⟨by rw [has_put_other hne, e1], by rw [atKey_put_other hne, e2]⟩
end
end Go.Proofs.Ytgbfaggnnfoamaa
namespace Go.Proofs.Ytgbfaggnnfoamaa
open Go.RowKit Go.Maps
theorem mD : Try.prog.underlying 111 = some (.array 7 3) := by kernel_rfl
theorem sigmap_under : Try.prog.underlying 109 = some (.map 111 3) := by kernel_rfl
theorem sig_keyed : Keyed Try.prog 111 := Keyed.of_law (deep_law_laid (m := 5) (by kernel_rfl) (by decide) (of_decide_eq_true (by kernel_rfl)) (by kernel_rfl) (by kernel_rfl))
theorem nat_wf {x : Nat} (hx : x < 4611686018427387904) : (Lit.int .i64 (x : Int)).wf = true := mid_wf (x := (x : Int)) ⟨by omega, by omega⟩
theorem uN (d : Nat) {x : Nat} (hx : x < 4611686018427387904) : Try.prog.keyLits (d + 1) 3 [.int .i64 (x : Int)] = some [.int .i64 (x : Int)] := by
 unfold Program.keyLits
 rw [uC]
 simp [nat_wf hx]
def sigV (L : List Nat) : Value := .agg #[.int .i64 ((L.getD 0 0 : Nat) : Int), .int .i64 ((L.getD 1 0 : Nat) : Int), .int .i64 ((L.getD 2 0 : Nat) : Int), .int .i64 ((L.getD 3 0 : Nat) : Int), .int .i64 ((L.getD 4 0 : Nat) : Int), .int .i64 ((L.getD 5 0 : Nat) : Int), .int .i64 ((L.getD 6 0 : Nat) : Int)]
def SigOk (L : List Nat) : Prop := L.length = 7 ∧ ∀ x ∈ L, x < 4611686018427387904
theorem jF : Try.prog.cellsOf 111 = 7 := by kernel_rfl
theorem int_cells : Try.prog.cellsOf 3 = 1 := by kernel_rfl
theorem sig_some {x0 x1 x2 x3 x4 x5 x6 : Nat} (h0 : x0 < 4611686018427387904) (h1 : x1 < 4611686018427387904) (h2 : x2 < 4611686018427387904) (h3 : x3 < 4611686018427387904) (h4 : x4 < 4611686018427387904) (h5 : x5 < 4611686018427387904) (h6 : x6 < 4611686018427387904) :
  (keyOf Try.prog 111 (.agg #[.int .i64 (x0 : Int), .int .i64 (x1 : Int), .int .i64 (x2 : Int), .int .i64 (x3 : Int), .int .i64 (x4 : Int), .int .i64 (x5 : Int), .int .i64 (x6 : Int)])).isSome = true := by
 have hk : Try.prog.keyType 111 = true := by kernel_rfl
 unfold keyOf
 rw [mD]
 simp only [hk, Bool.true_and]
 have hf : (Value.agg #[.int .i64 (x0 : Int), .int .i64 (x1 : Int), .int .i64 (x2 : Int), .int .i64 (x3 : Int), .int .i64 (x4 : Int), .int .i64 (x5 : Int), .int .i64 (x6 : Int)]).formed Try.prog 111 = true := by
  simp [Value.formed, mD, jF]
 rw [if_pos hf]
 have hl : Try.prog.keyLits (Try.prog.types.size + 1) 111 (Value.agg #[.int .i64 (x0 : Int), .int .i64 (x1 : Int), .int .i64 (x2 : Int), .int .i64 (x3 : Int), .int .i64 (x4 : Int), .int .i64 (x5 : Int), .int .i64 (x6 : Int)]).cells.toList = some [.int .i64 (x0 : Int), .int .i64 (x1 : Int), .int .i64 (x2 : Int), .int .i64 (x3 : Int), .int .i64 (x4 : Int), .int .i64 (x5 : Int), .int .i64 (x6 : Int)] := by
  have hz : Try.prog.types.size = (Try.prog.types.size - 1) + 1 := by kernel_rfl
  rw [hz]
  unfold Program.keyLits
  rw [mD]
  simp [Value.cells, jF, int_cells, List.range, List.range.loop, uN _ h0, uN _ h1, uN _ h2, uN _ h3, uN _ h4, uN _ h5, uN _ h6]
 rw [hl]; rfl
theorem kK : KeyK 109 111 SigOk sigV where
 key := sig_keyed
 und := sigmap_under
 of := fun L h => by
  have hg : ∀ i, L.getD i 0 < 4611686018427387904 := fun i => by
   by_cases hi : i < L.length
   ·rw [zI hi]; exact h.2 _ (List.getElem_mem hi)
   ·rw [List.getD, List.getElem?_eq_none (by omega)]; simp
  exact sig_some (hg 0) (hg 1) (hg 2) (hg 3) (hg 4) (hg 5) (hg 6)
 inj := fun L M hL hM e => by
  simp only [sigV, Value.agg.injEq] at e
  have e := congrArg Array.toList e
  simp only [List.cons.injEq, Value.int.injEq, true_and, and_true] at e
  refine List.ext_getElem (by rw [hL.1, hM.1]) fun i h1 h2 => ?_
  rw [← zI (d := 0) h1, ← zI (d := 0) h2]
  have : i < 7 := by rw [← hL.1]; exact h1
  match i, this with
  | 0, _ => omega
  | 1, _ => omega
  | 2, _ => omega
  | 3, _ => omega
  | 4, _ => omega
  | 5, _ => omega
  | 6, _ => omega
end Go.Proofs.Ytgbfaggnnfoamaa
