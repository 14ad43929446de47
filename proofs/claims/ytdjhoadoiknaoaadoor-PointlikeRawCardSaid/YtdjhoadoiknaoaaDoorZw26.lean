/- Part 26 of the proof: MapIn, Numb, DfaPlain, MinPlain, VFam. -/
import Derived.Test.YtdjhoadoiknaoaaDoorZw25
import Derived.Maps.Own
import Derived.Maps.Views
set_option linter.unusedVariables false
set_option linter.unusedSimpArgs false
namespace Go.Proofs.YtdjhoadoiknaoaaDoor
open Go.RowKit Go.Maps
theorem key_int : Keyed Tryd.prog 3 := int_keyed (q := .i64) (by kernel_rfl)
theorem map_under : Tryd.prog.underlying 118 = some (.map 3 4) := by kernel_rfl
theorem bool_under : Tryd.prog.underlying 4 = some .bool := by kernel_rfl
theorem zero_bool (w : World) : (zeroValue 4).run Tryd.prog w = .ok (.bool false) w := by kernel_rfl
theorem key_wf {x : Nat} (hx : x < 4611686018427387904) : (Lit.int .i64 (x : Int)).wf = true := by
  have h1 : IntKind.i64.min = -9223372036854775808 := rfl
  have h2 : IntKind.i64.max = 9223372036854775807 := rfl
  simp [Lit.wf]; omega
theorem key_of {x : Nat} (hx : x < 4611686018427387904) : keyOf Tryd.prog 3 (.int .i64 (x : Int)) = some (.int .i64 (x : Int)) := keyOf_int_mk (q := .i64) (by kernel_rfl) (key_wf hx)
theorem bool_inv {v : Value} {c : Bool} {ps : List MemPlace} (h : plainElem (H := Unit) Tryd.prog 4 v = some (.lit (.bool c), ps)) : v = .bool c := by
  unfold plainElem at h
  rw [bool_under] at h
  cases v <;> simp at h
  rw [h.1]
def MapIn (w : World) (b n : Nat) (l : List Nat) : Prop :=
  ∃ D : DataW Unit, w.ownsMap Tryd.prog 3 (plainElem Tryd.prog 4) b n D ∧ IsMap D ∧ ∀ x : Nat, x < 4611686018427387904 → D.atKey (.int .i64 (x : Int)) (.lit (.bool false)) = .lit (.bool (decide (x ∈ l)))
theorem MapIn.made (w : World) : MapIn (w.alloc (.map #[] 0)) w.heap.size 0 [] := by
  refine ⟨.map [], World.ownsMap_made _ _ _ _, ⟨_, rfl⟩, fun x _ => ?_⟩
  rw [WideAt.atKey_none _ (by simp)]
  simp
theorem MapIn.kept {w w' : World} {b n : Nat} {l : List Nat} {row : Option Nat} (h : MapIn w b n l) (hg : w.grownBy w' row) (hne : row ≠ some b) : MapIn w' b n l := by
  obtain ⟨D, h1, h2, h3⟩ := h
  exact ⟨D, h1.kept hg (fun e => hne e.symm), h2, h3⟩
theorem MapIn.lt {w : World} {b n : Nat} {l : List Nat} (h : MapIn w b n l) : b < w.heap.size := by
  obtain ⟨D, h1, _⟩ := h
  exact h1.lt
theorem MapIn.lookup {w : World} {b n : Nat} {l : List Nat} (h : MapIn w b n l) {x : Nat} (hx : x < 4611686018427387904) : (Instr.lookup 118 (.map (some b)) (.int .i64 (x : Int)) false).run Tryd.prog w = .ok (.bool (decide (x ∈ l))) w := by
  obtain ⟨D, h1, h2, h3⟩ := h
  obtain ⟨v, ps, hrun, hv⟩ := h1.lookup key_int map_under (zero_bool w) (plainElem_bool bool_under false) (key_of hx)
  rw [h3 x hx] at hv
  rw [hrun, bool_inv hv]
theorem MapIn.update {w : World} {b n : Nat} {l : List Nat} (h : MapIn w b n l) (hn : n < maxLen) {x : Nat} (hx : x < 4611686018427387904) :
    ∃ w', (Instr.mapUpdate 118 (.map (some b)) (.int .i64 (x : Int)) (.bool true)).run Tryd.prog w = .ok () w' ∧ MapIn w' b (n + 1) (x :: l) ∧ w.grownBy w' (some b) := by
  obtain ⟨D, h1, h2, h3⟩ := h
  obtain ⟨w', hrun, hown, hg⟩ := h1.update key_int map_under hn (key_of hx) (plainElem_bool bool_under true)
  refine ⟨w', hrun, ⟨_, hown, ?_, fun y hy => ?_⟩, hg⟩
  · exact h2.put _ _
  · by_cases e : y = x
    · subst e
      rw [atKey_put_same (k := .int .i64 (y : Int)) h2 (by simp [WideAt.IsKeyLit])]
      simp
    · rw [atKey_put_other (by intro h; injection h with _ h; omega), h3 y hy]
      simp [e]
theorem step_in {w : World} {ops : Array Oper} {rest : List Oper} {o : Oper} {a : Act} {Q : Exit → Act → World → Prop} (hg : o.guard = none) (m x v : Operand) (hop : o.op = Op.mapUpdate 118 m x v)
    (b n : Nat) (l : List Nat) (z : Nat) (hm : a.eval m = .map (some b)) (hx : a.eval x = .int .i64 (z : Int)) (hv : a.eval v = .bool true) (h : MapIn w b n l) (hn : n < maxLen) (hz : z < 4611686018427387904)
    (hK : ∀ w', MapIn w' b (n + 1) (z :: l) → w.grownBy w' (some b) → wpList Tryd.prog ops Q rest (a.put o.dst undef) w') :
    wpList Tryd.prog ops Q (o :: rest) a w := by
  refine wpList_plain hg fun K' hK' => ?_
  obtain ⟨w', hrun, r1, r2⟩ := h.update hn hz
  unfold Oper.wp
  simp [execOp, hop, hm, hx, hv, hrun, Result.andThen]
  exact hK' _ _ (hK w' r1 r2)
end Go.Proofs.YtdjhoadoiknaoaaDoor
namespace Go.Proofs.YtdjhoadoiknaoaaDoor
section
variable {α : Type} [DecidableEq α]
end
theorem getD_eq {α : Type} {l : List α} {i : Nat} {d : α} (h : i < l.length) : l.getD i d = l[i] := by simp [List.getD, List.getElem?_eq_getElem h]
end Go.Proofs.YtdjhoadoiknaoaaDoor
namespace Go.Proofs.YtdjhoadoiknaoaaDoor
structure DfaV where
  letters : Int
  start : Int
  final : List Bool
  next : List (List Int)
def nx (d : DfaV) (q a : Nat) : Nat := entN d.next q a
end Go.Proofs.YtdjhoadoiknaoaaDoor
namespace Go.Proofs.YtdjhoadoiknaoaaDoor
theorem getD_map' {α β : Type} {l : List α} {f : α → β} {i : Nat} {x : α} {y : β} (h : i < l.length) : (l.map f).getD i y = f (l.getD i x) := by
  rw [getD_eq (by simpa using h), getD_eq h]; simp
section
variable {d : DfaV} {n k : Nat} {p : List Nat}
end
def run (d : DfaV) (q : Nat) (w : List Nat) : Nat := w.foldl (nx d) q
section
variable {d : DfaV} {n k : Nat}
end
section
variable {d : DfaV} {n k : Nat}
end
end Go.Proofs.YtdjhoadoiknaoaaDoor
namespace Go.Proofs.YtdjhoadoiknaoaaDoor
open Go.RowKit
set_option maxHeartbeats 800000 in
theorem validFamily_any (B : Nat) (w : World) (v sv : Value) (t : List (List Int)) (zs : List Int) (hB : B ≤ w.heap.size) (h : Mat B w v t) (hz : Row B w sv (ints zs)) (hv : validE t = 0) (hle : t.length ≤ 12) (hT : TabOk w) :
    Calls Tryd.prog 64 #[v, sv] w fun e w' => e = .returned (.bool (famB t.length zs)) ∧ w.grownBy w' none := by
  have HN := Lib.hid (newSets_any B w v t hB h hv hle hT)
  have hzl := hz.len_le
  rw [ints_length] at hzl
  unfold maxLen at hzl
  obtain ⟨ta, tc, rfl⟩ := h.shape
  obtain ⟨za, zc, rfl⟩ := hz.shape
  rw [ints_length] at hz ⊢
  have HZ := Lib.hid hz
  clear h hv hT
  by_cases h0 : zs.length = 0
  · have HF := Lib.hid (famB_nil (n := t.length) h0)
    go_enter Tryd.func64, Tryd.ntmps64
    go_wp2
    go_ret
    exact ⟨ret_bool HF.out.symm, grownBy_refl _ _⟩
  · have e0 : ((zs.length : Int) == 0) = false := by rw [beq_eq_false_iff_ne]; omega
    obtain ⟨ib, io, icc, e, _, _, _, hra⟩ := hz.some_ (by rw [ints_length]; omega)
    simp only [Value.slice.injEq] at e
    obtain ⟨rfl, -, -⟩ := e
    have RA := Lib.hid hra
    clear hra hz
    go_enter Tryd.func64, Tryd.ntmps64
    go_wp2
    go_loopg [12] zs.length (fun g i wr => ∃ k : Nat, g + k = zs.length ∧ i = .int .i64 k ∧ famTo t.length zs k = true ∧ w = wr)
    case atStart => exact ⟨0, rfl, rfl, rfl, rfl⟩
    case round =>
      obtain ⟨y, hg, rfl, hok, rfl⟩ := hrel
      have OKY := Lib.hid hok; have HG2 := Lib.hid hg; clear hok hg
      by_cases hy : y < zs.length
      · have hcy := RA.out.int y hy
        obtain ⟨z, hz⟩ : ∃ z, z = zs.getD y 0 := ⟨_, rfl⟩
        rw [← hz] at hcy
        have HZY := Lib.hid hz; clear hz
        by_cases hb1 : z = 0
        · have HF : Hid (famB t.length zs = false) := Lib.hid (famB_no (famTo_no (i := y) (by rw [famAt_is HZY.out rfl, hb1]; rfl) hy))
          subst hb1
          go_wp2
          go_ret
          exact ⟨ret_bool HF.out.symm, grownBy_refl _ _⟩
        · have e1 : (z == 0) = false := by rw [beq_eq_false_iff_ne]; exact hb1
          cases hs : setB t.length z with
          | false =>
            have HF : Hid (famB t.length zs = false) := Lib.hid (famB_no (famTo_no (i := y) (by rw [famAt_is HZY.out rfl, hs]; simp) hy))
            go_wp2_with fail
            refine (validSet_any' w ta t.length tc z hle).mono ?_
            rintro e w1 ⟨rfl, rfl⟩
            rw [hs]
            go_wp2
            go_ret
            exact ⟨ret_bool HF.out.symm, grownBy_refl _ _⟩
          | true =>
            have HS := Lib.hid hs
            clear hs
            rcases y with _ | x
            · have hcy0 : w.cell? ⟨ib, io, none⟩ = some (.int .i64 z) := hcy
              have HF : Hid (famTo t.length zs (0 + 1) = true) := Lib.hid (by rw [famTo_succ, OKY.out, famAt_is HZY.out rfl, HS.out]; simp [hb1])
              go_wp2_with fail
              refine (validSet_any' w ta t.length tc z hle).mono ?_
              rintro e w1 ⟨rfl, rfl⟩
              rw [HS.out]
              go_wp2
              go_roundg (zs.length - 1)
              case measure => have := HG2.out; omega
              case rel => exact ⟨0 + 1, by omega, by go_num, HF.out, rfl⟩
            · have hcx := RA.out.int x (by omega)
              obtain ⟨u, hu⟩ : ∃ u, u = zs.getD x 0 := ⟨_, rfl⟩
              rw [← hu] at hcx
              have HU := Lib.hid hu; clear hu
              by_cases hlt : u < z
              · have HF : Hid (famTo t.length zs (x + 1 + 1) = true) := Lib.hid (by rw [famTo_succ, OKY.out, famAt_is HZY.out HU.out, HS.out]; simp [hb1, hlt])
                go_wp2_with fail
                refine (validSet_any' w ta t.length tc z hle).mono ?_
                rintro e w1 ⟨rfl, rfl⟩
                rw [HS.out]
                go_wp2
                go_roundg (zs.length - (x + 1 + 1))
                case measure => have := HG2.out; omega
                case rel => exact ⟨x + 1 + 1, by omega, by go_num, HF.out, rfl⟩
              · have HF : Hid (famB t.length zs = false) := Lib.hid (famB_no (famTo_no (i := x + 1) (by rw [famAt_is HZY.out HU.out, HS.out]; simp [hlt]) hy))
                go_wp2_with fail
                refine (validSet_any' w ta t.length tc z hle).mono ?_
                rintro e w1 ⟨rfl, rfl⟩
                rw [HS.out]
                go_wp2
                go_ret
                exact ⟨ret_bool HF.out.symm, grownBy_refl _ _⟩
      · have hyl : y = zs.length := by have := HG2.out; omega
        have HFT : Hid (famTo t.length zs zs.length = true) := Lib.hid (by rw [← hyl]; exact OKY.out)
        have HF := Lib.hid (famB_eq (n := t.length) (by omega) HFT.out)
        clear hyl
        go_wp2_with fail
        refine HN.out.mono ?_
        rintro e w2 ⟨p, go, rfl, hs2, hg2⟩
        have hrz := HZ.out.kept hg2 (by simp)
        rw [ints_natL HFT.out] at hrz
        have hz2 := hg2.size
        have HM := Lib.hid (maximal_any w.heap.size w2.heap.size w2 p go t.length (entN t) _ B (natL zs) hs2 hle hrz (natL_lt HFT.out) (by omega))
        have HG2' := Lib.hid hg2
        clear hs2 hrz hg2
        go_wp2_with fail
        refine HM.out.mono ?_
        rintro e w4 ⟨sa4, sc4, rfl, hown4, hg4⟩
        have HG4 := Lib.hid hg4
        clear hown4 hg4
        go_wp2
        go_ret
        exact ⟨ret_bool (by rw [HF.out, Bool.eq_iff_iff, beq_iff_eq, decide_eq_true_eq]; omega), grownBy_trans' HG2'.out HG4.out⟩
end Go.Proofs.YtdjhoadoiknaoaaDoor
