/- Part 36 of the proof: Known. -/
import Derived.Test.YtgbfaggnnfoamaaZf35
set_option linter.unusedVariables false
set_option linter.unusedSimpArgs false
namespace Go.Proofs.Ytgbfaggnnfoamaa
open Go.RowKit
def vA : List (List (List Int)) := [[[], [97], []], [[], [97], [97], []]]
theorem famKnown_eq : ((upTo 1 (2 + 1)).drop 1).map zY = vA := by decide
def FamKnown (w : World) (e : Ending) (w' : World) : Prop :=
 ∃ (sa : Option Addr) (sc : Nat) (svs : List Value), e = .returned (.tuple #[.slice sa 2 sc, .int .i64 0]) ∧ RowT w'.heap.size 36 w' (.slice sa 2 sc) svs ∧ RowsT w'.heap.size 9 strs w' svs vA ∧ w.grownBy w' none
set_option maxHeartbeats 400000 in
theorem family_known (w : World) : Calls Try.prog 11 #[.int .i64 6, .int .i64 1, .int .i64 2, .int .i64 0] w (FamKnown w) := by
 have c1 := fun w => validOrder_any 6 1 2 0 w
 have c2 := fun w => size_any 6 1 2 0 w (by omega) (by omega) (by omega) (by omega) (by omega) (by omega) (by omega)
 have c3 := fun w => pieces_any 1 2 w (by omega) (by omega) (by omega) (by omega)
 rw [show zU 6 1 2 0 = true by decide] at c1
 rw [show sizeV 6 1 2 0 = 2 by decide] at c2
 rw [famKnown_eq] at c3
 have C1 := Kh c1; have C2 := Kh c2; have C3 := Kh c3; clear c1 c2 c3
 go_enter Try.func11, Try.ntmps11
 go_wp2_with fail
 refine (C1.out _).mono ?_
 rintro e w1 ⟨rfl, rfl⟩
 go_wp2_with fail
 refine (C2.out _).mono ?_
 rintro e w1 ⟨rfl, rfl⟩
 go_wp2_with fail
 refine (C3.out _).mono ?_
 rintro e w1 ⟨sa, sc, svs, rfl, h1, h2, h3⟩
 go_wp2
 go_ret2
 exact ⟨sa, sc, svs, rfl, h1, h2, h3⟩
theorem match_yes : yF [⟨#[97]⟩, ⟨#[98]⟩, ⟨#[]⟩] ⟨#[97, 97, 98]⟩ = true := by decide +kernel
theorem match_no : yF [⟨#[97, 98]⟩, ⟨#[98, 97]⟩] ⟨#[97, 98, 97]⟩ = false := by decide +kernel
def yR (w : World) : World :=
  ((w.alloc (.cells #[.string ⟨#[]⟩, .string ⟨#[97]⟩, .string ⟨#[]⟩] 9)).alloc (.cells #[.string ⟨#[]⟩, .string ⟨#[97]⟩, .string ⟨#[97]⟩, .string ⟨#[]⟩] 9)).alloc
    (.cells #[.slice (some ⟨w.heap.size, 0, none⟩) 3 3, .slice (some ⟨w.heap.size + 1, 0, none⟩) 4 4] 36)
theorem RowT.litK {B : Nat} {e : TypeId} {w : World} {b : Nat} {cs : Array Value} {m : Nat × Nat} {n : Nat} (h : w.heap[b]? = some (.cells cs e m)) (hb : b < B) (hn : cs.size = n) (hm : n ≤ maxLen) : RowT B e w (.slice (some ⟨b, 0, none⟩) n n) cs.toList :=
 .inr ⟨b, 0, n, cs, m, by rw [Array.length_toList, hn], hb, by rw [Array.length_toList, hn]; exact Nat.le_refl _, hm, h, fun i hi => by rw [Nat.zero_add, ← Array.getElem?_toList, List.getElem?_eq_getElem hi]⟩
theorem lit_known (w : World) :
  Row (yR w).heap.size (yR w) (.slice (some ⟨w.heap.size + 1 + 1, 0, none⟩) 2 2) [.slice (some ⟨w.heap.size, 0, none⟩) 3 3, .slice (some ⟨w.heap.size + 1, 0, none⟩) 4 4] ∧
  RowsT (yR w).heap.size 9 strs (yR w) [.slice (some ⟨w.heap.size, 0, none⟩) 3 3, .slice (some ⟨w.heap.size + 1, 0, none⟩) 4 4] vA := by
 have hs : (yR w).heap.size = w.heap.size + 3 := by simp [yR]
 have b0 : (yR w).heap[w.heap.size]? = some (.cells #[.string ⟨#[]⟩, .string ⟨#[97]⟩, .string ⟨#[]⟩] 9 (0, 0)) :=
  yQ (heap_alloc_new w _) (yV (World.grownBy_alloc _ _ none) _) (by simp)
 have b1 : (yR w).heap[w.heap.size + 1]? = some (.cells #[.string ⟨#[]⟩, .string ⟨#[97]⟩, .string ⟨#[97]⟩, .string ⟨#[]⟩] 9 (0, 0)) :=
  yQ (by simpa using heap_alloc_new (w.alloc (.cells #[.string ⟨#[]⟩, .string ⟨#[97]⟩, .string ⟨#[]⟩] 9)) (.cells #[.string ⟨#[]⟩, .string ⟨#[97]⟩, .string ⟨#[97]⟩, .string ⟨#[]⟩] 9)) (World.grownBy_alloc _ _ none) (by simp)
 have b2 : (yR w).heap[w.heap.size + 1 + 1]? = some (.cells #[.slice (some ⟨w.heap.size, 0, none⟩) 3 3, .slice (some ⟨w.heap.size + 1, 0, none⟩) 4 4] 36 (0, 0)) := by
  have := heap_alloc_new ((w.alloc (.cells #[.string ⟨#[]⟩, .string ⟨#[97]⟩, .string ⟨#[]⟩] 9)).alloc (.cells #[.string ⟨#[]⟩, .string ⟨#[97]⟩, .string ⟨#[97]⟩, .string ⟨#[]⟩] 9)) (.cells #[.slice (some ⟨w.heap.size, 0, none⟩) 3 3, .slice (some ⟨w.heap.size + 1, 0, none⟩) 4 4] 36)
  simpa [yR] using this
 refine ⟨(RowT.litK (n := 2) b2 (by omega) rfl (by unfold maxLen; omega)).row, rfl, fun i h h' => ?_⟩
 match i, h with
 | 0, _ => exact RowT.litK (n := 3) b0 (by omega) rfl (by unfold maxLen; omega)
 | 1, _ => exact RowT.litK (n := 4) b1 (by omega) rfl (by unfold maxLen; omega)
theorem small3 (a b c : ByteArray) (ha : a.size ≤ 140737488351232) (hb : b.size ≤ 140737488351232) (hc : c.size ≤ 140737488351232) : ∀ i (h : i < [a, b, c].length), [a, b, c][i].size ≤ 140737488351232
 | 0, _ => ha
 | 1, _ => hb
 | 2, _ => hc
theorem small2 (a b : ByteArray) (ha : a.size ≤ 140737488351232) (hb : b.size ≤ 140737488351232) : ∀ i (h : i < [a, b].length), [a, b][i].size ≤ 140737488351232
 | 0, _ => ha
 | 1, _ => hb
set_option maxRecDepth 100000 in
set_option maxHeartbeats 400000 in
theorem wT (w : World) (hL : SomeLen w) : Calls Try.prog 14 #[] w fun e w' => e = .returned (.bool true) ∧ w.grownBy w' none := by
 go_enter Try.func14, Try.ntmps14
 go_wp2_with fail
 refine (family_known _).mono ?_
 rintro e w1 ⟨sa, sc, svs, rfl, hT, hS, hg1⟩
 have hL1 := hL.kept hg1 (by simp)
 go_wp2_with fail
 refine (match_any w1.heap.size 0 3 [⟨#[97]⟩, ⟨#[98]⟩, ⟨#[]⟩] ⟨#[97, 97, 98]⟩ _ (by decide) (by unfold maxLen; omega) (Arr.new w1 _ _).row (small3 _ _ _ (by decide) (by decide) (by decide)) (by decide) (hL1.kept (World.grownBy_alloc _ _ none) (by simp))).mono ?_
 rw [match_yes]
 rintro e w2 ⟨rfl, hg2⟩
 have hg2' := zE (World.grownBy_alloc w1 (.cells #[.string ⟨#[97]⟩, .string ⟨#[98]⟩, .string ⟨#[]⟩] 9) none) hg2
 have hL2 := hL1.kept hg2' (by simp)
 go_wp2_with fail
 refine (match_any w2.heap.size 0 2 [⟨#[97, 98]⟩, ⟨#[98, 97]⟩] ⟨#[97, 98, 97]⟩ _ (by decide) (by unfold maxLen; omega) (Arr.new w2 _ _).row (small2 _ _ (by decide) (by decide)) (by decide) (hL2.kept (World.grownBy_alloc _ _ none) (by simp))).mono ?_
 rw [match_no]
 rintro e w3 ⟨rfl, hg3⟩
 have hg3' := zE (World.grownBy_alloc w2 (.cells #[.string ⟨#[97, 98]⟩, .string ⟨#[98, 97]⟩] 9) none) hg3
 have hg13 := zE hg2' hg3'
 have hT3 := hT.kept hg13 (by simp)
 have hS3 := hS.kept hg13 (by simp)
 have hgw := zE hg1 hg13
 have HS3 := Kh hS3
 clear hT hS hg2 hg2' hg3 hg3' hg13 hS3
 go_wp2_with fail
 obtain ⟨r2, k2⟩ := lit_known w3
 have g3 : w3.grownBy (yR w3) none := yV (yV (World.grownBy_alloc w3 _ _) _) _
 have gw3 := zE hgw g3
 have hsz := (zE (row := none) (World.grownBy_alloc w3 (.cells #[] 0) none) (zF _ _)).size
 refine (xS _ _ _ _ svs _ vA _ (hT3.kept g3 (by simp)).row r2 (HS3.out.kept g3 (by simp)) k2 (by decide) (by decide)).mono ?_
 rintro e w4 ⟨rfl, m, rfl⟩
 go_wp2
 go_ret
 exact ⟨rfl, wF gw3 rfl rfl rfl rfl⟩
end Go.Proofs.Ytgbfaggnnfoamaa
