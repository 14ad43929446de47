/- Part 34 of the proof: Bld. -/
import Derived.Test.YtjfdomfendbhfaaQb33
set_option linter.unusedVariables false
set_option linter.unusedSimpArgs false
namespace Go.Proofs.Ytjfdomfendbhfaa
open Go.RowKit Go.Maps
def chval (c : ChoV) : List Value := [.int .i64 c.p, .int .i64 c.y, .int .i64 c.n]
def sV (l : List ChoV) : List Value := l.flatMap chval
theorem chvals_snoc (l : List ChoV) (c : ChoV) : sV (l ++ [c]) = sV l ++ chval c := by simp [sV]
theorem oG : ∀ (l : List ChoV) (i : Nat) (h : i < l.length), (sV l)[i * 3]? = some (.int .i64 l[i].p) ∧ (sV l)[i * 3 + 1]? = some (.int .i64 l[i].y) ∧ (sV l)[i * 3 + 2]? = some (.int .i64 l[i].n)
 | [], i, h => by simp at h
 | x :: l, 0, _ => ⟨rfl, rfl, rfl⟩
 | x :: l, i + 1, h => by
  have h1 := oG l i (by simpa using h)
  rw [show sV (x :: l) = .int .i64 x.p :: .int .i64 x.y :: .int .i64 x.n :: sV l from rfl, show (i + 1) * 3 = i * 3 + 1 + 1 + 1 by omega, show i * 3 + 1 + 1 + 1 + 1 = (i * 3 + 1) + 1 + 1 + 1 by omega, show i * 3 + 1 + 1 + 1 + 2 = (i * 3 + 2) + 1 + 1 + 1 by omega]
  simpa using h1
theorem elem_cho : ElemN Try.prog 23 45 3 (.agg #[.int .i64 0, .int .i64 0, .int .i64 0]) 24 := ⟨by kernel_rfl, by kernel_rfl, by rfl, by decide⟩
theorem chos_of_owns {base : Nat} {w : World} {v : Value} {l : List ChoV} {B : Nat} (h : w.ownsRow base 45 3 v l.length (sV l)) (hB : w.heap.size ≤ B) : sY B w v l := by
 have hadd : ∀ g j, (⟨g, 0, none⟩ : Addr).add j = ⟨g, j, none⟩ := fun g j => by unfold Addr.add; split <;> simp_all
 rcases h.2 with ⟨rfl, h0⟩ | ⟨g, cap, cur, rfl, hb, hg, hnc, hcm, _⟩
 ·exact .inl ⟨none, 0, by first | rfl | rw [h0], List.eq_nil_of_length_eq_zero h0⟩
 ·refine .inr ⟨g, 0, cap, rfl, Nat.lt_of_lt_of_le (zN hg) hB, hnc, hcm, zN hg, fun i hi => ?_, fun i hi => ?_, fun i hi => ?_⟩
  ·have c1 := h.cells (g := g) rfl _ _ (oG l i hi).1
   rw [hadd] at c1
   rw [zI hi, Nat.zero_add]; exact c1
  ·have c1 := h.cells (g := g) rfl _ _ (oG l i hi).2.1
   rw [hadd] at c1
   rw [zI hi, Nat.zero_add]; exact c1
  ·have c1 := h.cells (g := g) rfl _ _ (oG l i hi).2.2
   rw [hadd] at c1
   rw [zI hi, Nat.zero_add]; exact c1
theorem chomap_under : Try.prog.underlying 135 = some (.map 45 3) := by kernel_rfl
theorem cho_keyed : Keyed Try.prog 45 := Keyed.of_law (deep_law_laid (m := 5) (by kernel_rfl) (by decide) (of_decide_eq_true (by kernel_rfl)) (by kernel_rfl) (by kernel_rfl))
def choW (c : ChoV) : Value := .agg #[.int .i64 c.p, .int .i64 c.y, .int .i64 c.n]
def ChoOk (c : ChoV) : Prop := (0 ≤ c.p ∧ c.p < 4611686018427387904) ∧ (0 ≤ c.y ∧ c.y < 4611686018427387904) ∧ (0 ≤ c.n ∧ c.n < 4611686018427387904)
theorem cho_cells : Try.prog.cellsOf 45 = 3 := by kernel_rfl
theorem cho_some {x0 x1 x2 : Nat} (h0 : x0 < 4611686018427387904) (h1 : x1 < 4611686018427387904) (h2 : x2 < 4611686018427387904) : (keyOf Try.prog 45 (.agg #[.int .i64 (x0 : Int), .int .i64 (x1 : Int), .int .i64 (x2 : Int)])).isSome = true := by
 have hk : Try.prog.keyType 45 = true := by kernel_rfl
 unfold keyOf
 rw [Try.underlying45]
 simp only [hk, Bool.true_and]
 have hf : (Value.agg #[.int .i64 (x0 : Int), .int .i64 (x1 : Int), .int .i64 (x2 : Int)]).formed Try.prog 45 = true := by
  simp [Value.formed, Try.underlying45, cho_cells]
 rw [if_pos hf]
 have hl : Try.prog.keyLits (Try.prog.types.size + 1) 45 (Value.agg #[.int .i64 (x0 : Int), .int .i64 (x1 : Int), .int .i64 (x2 : Int)]).cells.toList = some [.int .i64 (x0 : Int), .int .i64 (x1 : Int), .int .i64 (x2 : Int)] := by
  have hz : Try.prog.types.size = (Try.prog.types.size - 1) + 1 := by kernel_rfl
  rw [hz]
  unfold Program.keyLits
  rw [Try.underlying45]
  simp [Value.cells, cho_cells, int_cells, tC _ h0, tC _ h1, tC _ h2]
 rw [hl]; rfl
theorem cho_key : KeyK 135 45 ChoOk choW where
 key := cho_keyed
 und := chomap_under
 of := fun c h => by
  obtain ⟨p, y, n⟩ := c
  obtain ⟨⟨a1, a2⟩, ⟨b1, b2⟩, ⟨c1, c2⟩⟩ := h
  simp only at a1 a2 b1 b2 c1 c2
  have := cho_some (x0 := p.toNat) (x1 := y.toNat) (x2 := n.toNat) (by omega) (by omega) (by omega)
  rw [Int.toNat_of_nonneg a1, Int.toNat_of_nonneg b1, Int.toNat_of_nonneg c1] at this
  exact this
 inj := fun x y hx hy e => by
  obtain ⟨p, y', n⟩ := x
  obtain ⟨p2, y2, n2⟩ := y
  simp only [choW, Value.agg.injEq] at e
  have e := congrArg Array.toList e
  simp only [List.cons.injEq, Value.int.injEq, true_and, and_true] at e
  obtain ⟨rfl, rfl, rfl⟩ := e
  rfl
def numH (l : List ChoV) (c : ChoV) : Option Nat := if c ∈ l then some (l.idxOf c) else none
theorem numH_of_mem {l : List ChoV} {c : ChoV} (h : c ∈ l) : numH l c = some (l.idxOf c) := if_pos h
theorem numH_not {l : List ChoV} {c : ChoV} (h : c ∉ l) : numH l c = none := if_neg h
theorem numH_snoc {l : List ChoV} {c : ChoV} (h : c ∉ l) : (fun q => if q = c then some l.length else numH l q) = numH (l ++ [c]) := by
 funext q
 unfold numH
 by_cases e : q = c
 ·subst e
  rw [if_pos rfl, if_pos (by simp), List.idxOf_append, if_neg h]; simp
 ·rw [if_neg e]
  by_cases hq : q ∈ l
  ·rw [if_pos hq, if_pos (List.mem_append_left _ hq), List.idxOf_append, if_pos hq]
  ·rw [if_neg hq, if_neg (fun h => by
    rcases List.mem_append.1 h with h | h
    ·exact hq h
    ·simp at h; exact e h)]
theorem BoxS.rewk {B : Nat} {X : Nat → Prop} {o ty : Nat} {w0 wk wk0 w : World} {rs : List RowS} {c : Array Value} (h : BoxS B X o ty w0 wk rs c w) (hk : vA X wk0 wk) (hz : wk0.heap.size ≤ wk.heap.size) (hB : B ≤ wk0.heap.size) : BoxS B X o ty w0 wk0 rs c w :=
 ⟨h.mem, h.typ, h.box, h.off, h.size, h.old, hB, h.grown, hk.trans h.kept, Nat.le_trans hz h.wk⟩
inductive BldS (w0 : World) (B : Nat) (X : Nat → Prop) (o mb : Nat) (wk : World) (cs : List ChoV) (w : World) : Prop
 | mk (sa : Option Addr) (cap u c : Nat) (hB : BoxS B X o 137 w0 wk (⟨B, 45, .slice sa cs.length cap, cs.length, sV cs, 3⟩ :: []) #[.slice sa cs.length cap, .map (some mb)] w)
  (hM : MapK 45 ChoOk choW w mb u c (numH cs)) (hmx : ¬ X mb) (hmb : w0.heap.size ≤ mb) (hu : u ≤ cs.length)
section
variable {w0 w w' wk : World} {B o mb : Nat} {X : Nat → Prop} {cs : List ChoV}
theorem BldS.facts (h : BldS w0 B X o mb wk cs w) : w0.grownBy w none ∧ vA X wk w ∧ wk.heap.size ≤ w.heap.size ∧ B ≤ w.heap.size ∧ B ≤ wk.heap.size ∧ mb < w.heap.size ∧ o < w.heap.size := by
 obtain ⟨sa, cap, u, c, hB, hM, hmx, hmb, hu⟩ := h
 exact ⟨hB.grown, hB.kept, hB.wk, Nat.le_trans hB.base hB.wk, hB.base, hM.lt, zN hB.box⟩
theorem BldS.grow (h : BldS w0 B X o mb wk cs w) (hg : w.grownBy w' none) : BldS w0 B X o mb wk cs w' := by
 obtain ⟨sa, cap, u, c, hB, hM, hmx, hmb, hu⟩ := h
 exact ⟨sa, cap, u, c, hB.grow hg, hM.kept hg (by simp), hmx, hmb, hu⟩
theorem BldS.rebase (h : BldS w0 B X o mb wk cs w) : BldS w0 B X o mb w cs w := by
 obtain ⟨sa, cap, u, c, hB, hM, hmx, hmb, hu⟩ := h
 exact ⟨sa, cap, u, c, hB.rebase, hM, hmx, hmb, hu⟩
theorem BldS.fresh (h : BldS w0 B X o mb wk cs w) (hg : w.grownBy w' none) {Y : Nat → Prop} (hY : ∀ k, Y k → w.heap.size ≤ k ∧ k < w'.heap.size) : BldS w0 B (fun k => X k ∨ Y k) o mb w' cs w' := by
 obtain ⟨sa, cap, u, c, hB, hM, hmx, hmb, hu⟩ := h
 exact ⟨sa, cap, u, c, hB.fresh hg hY, hM.kept hg (by simp), fun e => by
  rcases e with e | e
  ·exact hmx e
  ·have := (hY mb e).1
   have := hM.lt
   omega, hmb, hu⟩
theorem BldS.back {X' : Nat → Prop} {wk0 : World} (h : BldS w0 B X' o mb wk cs w) (hX : ∀ q, X q → X' q) (hk : vA X wk0 wk) (hz : wk0.heap.size ≤ wk.heap.size) (hB : B ≤ wk0.heap.size) : BldS w0 B X o mb wk0 cs w := by
 obtain ⟨sa, cap, u, c, hB1, hM, hmx, hmb, hu⟩ := h
 exact ⟨sa, cap, u, c, (hB1.less hX).rewk hk hz hB, hM, fun e => hmx (hX _ e), hmb, hu⟩
theorem BldS.cells (h : BldS w0 B X o mb wk cs w) : ∃ sa cap u c, w.heap[o]? = some (.cells #[.slice sa cs.length cap, .map (some mb)] 137 (0, 0)) ∧ w.ownsRow B 45 3 (.slice sa cs.length cap) cs.length (sV cs) ∧ MapK 45 ChoOk choW w mb u c (numH cs) ∧ u ≤ cs.length := by
 obtain ⟨sa, cap, u, c, hB, hM, hmx, hmb, hu⟩ := h
 exact ⟨sa, cap, u, c, hB.box, hB.own (r := ⟨B, 45, .slice sa cs.length cap, cs.length, sV cs, 3⟩) (by simp), hM, hu⟩
theorem BldS.put (h : BldS w0 B X o mb wk cs w) {x : ChoV} (hx : x ∉ cs) {sa : Option Addr} {cap u1 c1 : Nat} (hbx : w.heap[o]? = some (.cells #[.slice sa cs.length cap, .map (some mb)] 137 (0, 0))) (hg : w.grownBy w' (some mb)) (hM1 : MapK 45 ChoOk choW w' mb u1 c1 (numH (cs ++ [x]))) (hu1 : u1 ≤ cs.length + 1) :
  w'.cell? ⟨o, 0, none⟩ = some (.slice sa cs.length cap) ∧ w'.ownsRow B 45 3 (.slice sa cs.length cap) cs.length (sV cs) ∧ B ≤ w'.heap.size ∧
  (∀ wg, w'.grownBy wg none → ∀ w2 s' c', w2.ownsRow B 45 3 (.slice s' (cs.length + 1) c') (cs.length + 1) (sV cs ++ chval x) → wg.grownBy w2 (Value.slice sa cs.length cap).ownBlock → nM wg w2 (.slice sa cs.length cap) (.slice s' (cs.length + 1) c') →
   w2.cell? ⟨o, 0, none⟩ = some (.slice sa cs.length cap) ∧ w2.frozen? ⟨o, 0, none⟩ = false ∧ BldS w0 B X o mb wk (cs ++ [x]) (w2.setCell ⟨o, 0, none⟩ (.slice s' (cs.length + 1) c'))) := by
 obtain ⟨sa2, cap2, u2, c2, hB, hM, hmx, hmb, hu⟩ := h
 have hbx2 := hB.box
 rw [hbx] at hbx2
 simp only [Option.some.injEq, Obj.cells.injEq, and_true] at hbx2
 have hbx2 := congrArg Array.toList hbx2
 simp only [List.cons.injEq, and_true, Value.slice.injEq, true_and] at hbx2
 obtain ⟨rfl, rfl⟩ := hbx2
 have homb : o ≠ mb := fun e => by
  obtain ⟨es, clock, hb⟩ := hM.obj
  rw [e, hb] at hbx; simp at hbx
 have hfar := hB.far hg (fun r hr => wH (es := #[]) (clock := 0) (hB.mem.own r hr) hM.obj) hmx homb hmb
 have ho := hfar.own (r := ⟨B, 45, .slice sa cs.length cap, cs.length, sV cs, 3⟩) (by simp)
 have hb0 := zO hfar.box 0 (by simp)
 simp only [List.getElem_toArray, List.getElem_cons_zero] at hb0
 refine ⟨hb0, ho, Nat.le_trans hfar.base hfar.wk, fun wg hwg w2 s' c' hown hg2 hmv => ?_⟩
 have hfg := hfar.grow hwg
 have hMg := hM1.kept hwg (by simp)
 have hSm : (Value.slice sa cs.length cap).ownBlock ≠ some mb := wH (es := #[]) (clock := 0) (zV ho hwg) hMg.obj
 have hA := hfg.appAt (j := 0) rfl hown hg2 hmv
 have hb2 := zO hA.box 0 (by simp)
 simp only [List.getElem_toArray, List.getElem_cons_zero] at hb2
 have hZ := hA.set 0 (.slice s' (cs.length + 1) c')
 have hM2 := (hMg.kept hg2 hSm).kept (zD w2 ⟨o, 0, none⟩ (.slice s' (cs.length + 1) c')) (fun e => homb (Option.some.inj e))
 have e1 : (cs ++ [x]).length = cs.length + 1 := by rw [List.length_append]; rfl
 refine ⟨hb2, zE hA.box 0, ⟨s', c', u1, c1, ?_, hM2, hmx, hmb, by omega⟩⟩
 rw [e1, chvals_snoc]
 exact hZ
end
end Go.Proofs.Ytjfdomfendbhfaa
