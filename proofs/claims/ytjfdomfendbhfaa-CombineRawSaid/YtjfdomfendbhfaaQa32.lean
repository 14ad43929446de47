/- Part 32 of the proof: PView. -/
import Derived.Test.YtjfdomfendbhfaaQa31
set_option linter.unusedVariables false
set_option linter.unusedSimpArgs false
namespace Go.Proofs.Ytjfdomfendbhfaa
open Go.RowKit Go.Maps
def LRow (w : World) (sb i : Nat) (x : List Nat) : Prop := ∃ g off cap, w.cell? ⟨sb, i, none⟩ = some (.slice (some ⟨g, off, none⟩) x.length cap) ∧ x.length ≤ cap ∧ cap ≤ maxLen ∧ ∀ j, j < x.length → w.cell? ⟨g, off + j, none⟩ = some (.int .i64 ((x.getD j 0 : Nat) : Int))
theorem LRow.grow {w w' : World} {sb i : Nat} {x : List Nat} (h : LRow w sb i x) (hg : w.grownBy w' none) : LRow w' sb i x := by
 obtain ⟨g, off, cap, h1, h2, h3, h4⟩ := h
 exact ⟨g, off, cap, xA h1 hg, h2, h3, fun j hj => xA (h4 j hj) hg⟩
structure ProdV (w : World) (o k : Nat) (pv : Value) (L : List (List Nat)) (nxl fr bl : List Nat) (sb sc nb nc fb fc bb bc : Nat) : Prop where
 box : w.heap[o]? = some (.cells #[.int .i64 (k : Int), pv, .slice (some ⟨sb, 0, none⟩) L.length sc, .slice (some ⟨nb, 0, none⟩) (L.length * k) nc, .slice (some ⟨fb, 0, none⟩) L.length fc, .slice (some ⟨bb, 0, none⟩) L.length bc] 111 (0, 0))
 caps : L.length ≤ sc ∧ sc ≤ maxLen ∧ L.length * k ≤ nc ∧ nc ≤ maxLen ∧ L.length ≤ fc ∧ fc ≤ maxLen ∧ L.length ≤ bc ∧ bc ≤ maxLen
 row : ∀ i, i < L.length → L.getD i [] ≠ [] → LRow w sb i (L.getD i [])
 nx : ∀ i, i < L.length * k → w.cell? ⟨nb, i, none⟩ = some (.int .i64 ((nxl.getD i 0 : Nat) : Int))
 fr : ∀ i, i < L.length → w.cell? ⟨fb, i, none⟩ = some (.int .i64 ((fr.getD i 0 : Nat) : Int))
 by_ : ∀ i, i < L.length → w.cell? ⟨bb, i, none⟩ = some (.int .i64 ((bl.getD i 0 : Nat) : Int))
 nlt : nb < w.heap.size
section
variable {w w' : World} {o k : Nat} {pv : Value} {L : List (List Nat)} {nxl fr bl : List Nat} {sb sc nb nc fb fc bb bc : Nat}
theorem ProdV.grow (h : ProdV w o k pv L nxl fr bl sb sc nb nc fb fc bb bc) (hg : w.grownBy w' none) : ProdV w' o k pv L nxl fr bl sb sc nb nc fb fc bb bc :=
 ⟨zB h.box hg (by simp), h.caps, fun i hi hn => (h.row i hi hn).grow hg, fun i hi => xA (h.nx i hi) hg, fun i hi => xA (h.fr i hi) hg, fun i hi => xA (h.by_ i hi) hg, Nat.lt_of_lt_of_le h.nlt hg.size⟩
theorem ProdV.cells (h : ProdV w o k pv L nxl fr bl sb sc nb nc fb fc bb bc) : w.cell? ⟨o, 0, none⟩ = some (.int .i64 (k : Int)) ∧ w.cell? ⟨o, 1, none⟩ = some pv ∧ w.cell? ⟨o, 2, none⟩ = some (.slice (some ⟨sb, 0, none⟩) L.length sc) ∧ w.cell? ⟨o, 3, none⟩ = some (.slice (some ⟨nb, 0, none⟩) (L.length * k) nc) ∧ w.cell? ⟨o, 4, none⟩ = some (.slice (some ⟨fb, 0, none⟩) L.length fc) ∧ w.cell? ⟨o, 5, none⟩ = some (.slice (some ⟨bb, 0, none⟩) L.length bc) := by
 have c0 := zI h.box 0 (by simp)
 have c1 := zI h.box 1 (by simp)
 have c2 := zI h.box 2 (by simp)
 have c3 := zI h.box 3 (by simp)
 have c4 := zI h.box 4 (by simp)
 have c5 := zI h.box 5 (by simp)
 simp only [List.getElem_toArray, List.getElem_cons_zero, List.getElem_cons_succ] at c0 c1 c2 c3 c4 c5
 exact ⟨c0, c1, c2, c3, c4, c5⟩
theorem ProdS.view {w0 : World} {B mb np m q : Nat} (h : ProdS w0 B o mb k np pv L nxl fr bl m q [] w) (h0 : 0 < m) (hq : q = m * k) (hk : 0 < k) : ∃ sb sc nb nc fb fc bb bc, ProdV w o k pv L nxl fr bl sb sc nb nc fb fc bb bc := by
 obtain ⟨sS', cS', sN', cN', sF', cF', sB', cB', hbx, hrow⟩ := h.cells
 obtain ⟨X, hs, sS, sN, sF, sB, cS, cN, cF, cB, u, c, hB, hE, hM, hmx, hmb, hu, ⟨rfl, hl2, hl3, hl4⟩, hhs⟩ := h
 have hq0 : 0 < q := by rw [hq]; exact Nat.mul_pos h0 hk
 obtain ⟨sb, e, h1, h2, h3⟩ := hrow h0
 have hbx2 := hB.box
 rw [hbx] at hbx2
 simp only [Option.some.injEq, Obj.cells.injEq, and_true] at hbx2
 have hbx2 := congrArg Array.toList hbx2
 simp only [List.cons.injEq, and_true, true_and, Value.slice.injEq] at hbx2
 obtain ⟨⟨rfl, rfl⟩, ⟨rfl, rfl⟩, ⟨rfl, rfl⟩, ⟨rfl, rfl⟩⟩ := hbx2
 subst e
 obtain ⟨nb, rfl, n1, n2, na⟩ := vS (hB.own (r := ⟨B, 3, .slice sN' q cN', q, nats nxl, 1⟩) (by simp)) hq0
 obtain ⟨fb, rfl, f1, f2, fa⟩ := vS (hB.own (r := ⟨B, 3, .slice sF' L.length cF', L.length, nats fr, 1⟩) (by simp)) h0
 obtain ⟨bb, rfl, b1, b2, ba⟩ := vS (hB.own (r := ⟨B, 3, .slice sB' L.length cB', L.length, nats bl, 1⟩) (by simp)) h0
 subst hq
 exact ⟨sb, cS', nb, cN', fb, cF', bb, cB', hbx, ⟨h1, h2, n1, n2, f1, f2, b1, b2⟩, fun i hi hne => h3 i hi hne, fun i hi => na.nat i (by omega), fun i hi => fa.nat i (by omega), fun i hi => ba.nat i (by omega), na.lt⟩
end
end Go.Proofs.Ytjfdomfendbhfaa
