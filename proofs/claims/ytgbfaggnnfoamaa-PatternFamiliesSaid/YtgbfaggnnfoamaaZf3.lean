/- Part 3 of the proof: Lex, Shelf. -/
import Derived.Test.YtgbfaggnnfoamaaZf2
import Derived.Shelf.Small.Wraps
import Derived.Shelf.Strings.Search1
import Derived.Shelf.Strings.Search2
import Derived.Shelf.Strings.Cut
import Derived.Shelf.LaysM
import Derived.Shelf.Strings.Shaped
import Derived.Shelf.Strings.Prefix
import Derived.Shelf.Bits.Mul64
import Derived.Test.YtgbfaggnnfoamaaProg
set_option linter.unusedVariables false
set_option linter.unusedSimpArgs false
namespace Go.Proofs.Ytgbfaggnnfoamaa
open Go.RowKit
def lex (letters : Nat) : Nat → List (List Int)
 | 0 => [[]]
 | n + 1 => (lex letters n).flatMap fun w => (List.range letters).map fun (c : Nat) => w ++ [97 + (c : Int)]
def nextL (letters : Nat) (l : List Int) : List Int × Bool := xC letters l.length l
def Run (letters : Nat) : List (List Int) → Prop
 | [] => False
 | [w] => (nextL letters w).2 = false
 | w :: v :: r => nextL letters w = (v, true) ∧ Run letters (v :: r)
theorem run_get {letters : Nat} : ∀ {L : List (List Int)} (_ : Run letters L) (i : Nat) (hi : i < L.length), (nextL letters L[i]).2 = decide (i + 1 < L.length) ∧ ∀ h : i + 1 < L.length, (nextL letters L[i]).1 = L[i + 1]
 | [w], h, 0, _ => by
  have h' : (nextL letters w).2 = false := h
  exact ⟨by simpa using h', by simp⟩
 | w :: v :: r, h, 0, _ => ⟨by simp [h.1], fun _ => by simp [h.1]⟩
 | w :: v :: r, h, i + 1, hi => by
  have := run_get h.2 i (by simpa using hi)
  simpa using this
theorem nextAt_front (letters : Int) (c : Int) : ∀ (i : Nat) (w : List Int), i ≤ w.length → xC letters i (w ++ [c]) = ((xC letters i w).1 ++ [c], (xC letters i w).2) := by
 intro i
 induction i with
 | zero => intro w _; rfl
 | succ i ih =>
  intro w hi
  have h1 : (w ++ [c]).getD i 0 = w.getD i 0 := by simp [List.getD, List.getElem?_append_left (show i < w.length by omega)]
  unfold xC
  rw [h1, List.set_append_left _ _ (by omega), List.set_append_left _ _ (by omega)]
  split
  ·rfl
  ·exact ih _ (by simpa using (show i ≤ w.length by omega))
theorem nextL_snoc (letters : Nat) (w : List Int) (c : Nat) (hc : c < letters) : nextL letters (w ++ [97 + (c : Int)]) = if c + 1 < letters then (w ++ [97 + ((c + 1 : Nat) : Int)], true) else ((nextL letters w).1 ++ [97], (nextL letters w).2) := by
 unfold nextL
 rw [List.length_append, List.length_singleton]
 have h1 : (w ++ [97 + (c : Int)]).getD w.length 0 = 97 + (c : Int) := by simp [List.getD]
 rw [xC, h1]
 by_cases h : c + 1 < letters
 ·rw [if_pos (by omega), if_pos h]
  simp; omega
 ·rw [if_neg (by omega), if_neg h, List.set_append_right _ _ (Nat.le_refl _)]
  simp only [Nat.sub_self, List.set_cons_zero]
  exact nextAt_front _ _ _ _ (Nat.le_refl _)
def block (letters : Nat) (w : List Int) (c : Nat) : List (List Int) := (List.range' c (letters - c)).map fun (c : Nat) => w ++ [97 + (c : Int)]
theorem wK {letters c : Nat} (w : List Int) (h : c < letters) : block letters w c = (w ++ [97 + (c : Int)]) :: block letters w (c + 1) := by
 unfold block
 rw [show letters - c = (letters - (c + 1)) + 1 by omega, List.range'_succ]
 rfl
theorem block_nil {letters c : Nat} (w : List Int) (h : letters ≤ c) : block letters w c = [] := by
 unfold block
 rw [show letters - c = 0 by omega]; rfl
theorem wS (letters n : Nat) : lex letters (n + 1) = (lex letters n).flatMap fun w => block letters w 0 := by
 simp [lex, block, List.range_eq_range']
theorem run_block {letters : Nat} (w : List Int) (rest : List (List Int)) (hend : (rest = [] ∧ (nextL letters w).2 = false) ∨ ∃ v r, rest = (v ++ [97]) :: r ∧ nextL letters w = (v, true) ∧ Run letters rest) :
  ∀ (d c : Nat), letters = c + d → 0 < d → Run letters (block letters w c ++ rest) := by
 intro d
 induction d with
 | zero => intro c _ h; omega
 | succ d ih =>
  intro c hc _
  rw [wK w (by omega)]
  by_cases hd : d = 0
  ·subst hd
   rw [block_nil w (by omega), List.cons_append, List.nil_append]
   have hs := nextL_snoc letters w c (by omega)
   rw [if_neg (by omega)] at hs
   rcases hend with ⟨rfl, h⟩ | ⟨v, r, rfl, h, hr⟩
   ·show (nextL letters _).2 = false
    rw [hs]; exact h
   ·refine ⟨?_, hr⟩
    rw [hs, h]
  ·have hi := ih (c + 1) (by omega) (by omega)
   rw [wK w (by omega)] at hi ⊢
   refine ⟨?_, hi⟩
   rw [nextL_snoc letters w c (by omega), if_pos (by omega)]
theorem run_flat {letters : Nat} (h1 : 0 < letters) : ∀ {L : List (List Int)}, Run letters L → Run letters (L.flatMap fun w => block letters w 0)
 | [w], h => by
  have := run_block w [] (.inl ⟨rfl, h⟩) letters 0 (by omega) h1
  simpa using this
 | w :: v :: r, h => by
  have hr := run_flat h1 h.2
  rw [List.flatMap_cons]
  refine run_block w _ (.inr ⟨v, block letters v 1 ++ r.flatMap fun w => block letters w 0, ?_, h.1, hr⟩) letters 0 (by omega) h1
  rw [List.flatMap_cons, wK v h1]
  simp
theorem run_lex {letters : Nat} (h1 : 0 < letters) : ∀ n, Run letters (lex letters n)
 | 0 => rfl
 | n + 1 => by rw [wS]; exact run_flat h1 (run_lex h1 n)
theorem yU {letters : Nat} : ∀ {n : Nat} {w : List Int}, w ∈ lex letters n → w.length = n ∧ ∀ x ∈ w, okNum letters x
 | 0, w, h => by simp [lex] at h; subst h; simp
 | n + 1, w, h => by
  simp only [lex, List.mem_flatMap, List.mem_map, List.mem_range] at h
  obtain ⟨v, hv, c, hc, rfl⟩ := h
  obtain ⟨h1, h2⟩ := yU hv
  refine ⟨by simp [h1], fun x hx => ?_⟩
  rcases List.mem_append.1 hx with hx | hx
  ·exact h2 x hx
  ·simp at hx; subst hx; unfold okNum; omega
theorem zT (letters : Nat) : ∀ n, (lex letters n).length = letters ^ n
 | 0 => rfl
 | n + 1 => by
  rw [wS, List.length_flatMap]
  have : (lex letters n).map (fun w => (block letters w 0).length) = List.replicate (letters ^ n) letters := by
   rw [← zT letters n, ← List.map_const']
   refine List.map_congr_left fun w _ => ?_
   simp [block]
  rw [this, List.sum_replicate_nat, Nat.pow_succ]
theorem lex_head {letters : Nat} (h1 : 0 < letters) : ∀ n, ∃ r, lex letters n = List.replicate n 97 :: r
 | 0 => ⟨[], rfl⟩
 | n + 1 => by
  obtain ⟨r, hr⟩ := lex_head h1 n
  rw [wS, hr, List.flatMap_cons, wK _ h1]
  refine ⟨block letters (List.replicate n 97) (0 + 1) ++ List.flatMap (fun w => block letters w 0) r, ?_⟩
  rw [List.cons_append, List.replicate_succ']
  simp
end Go.Proofs.Ytgbfaggnnfoamaa
namespace Go.Proofs
open Go.Shelf
def Try.lays103_ren : Go.Shelf.Ren := ⟨fun | 103 => 37 | 210 => 55 | 206 => 67 | n => n, fun | 9 => 9 | 4 => 4 | 24 => 66 | 3 => 3 | n => n, fun | n => n⟩
theorem Try.lays103 : Go.Proofs.Lays.n103 Try.prog Try.lays103_ren := {
 mixed := by kernel_rfl
 f103 := Try.func37.trans (congrArg some (by kernel_rfl))
 f206 := Try.func67.trans (congrArg some (by kernel_rfl))
 f210 := Try.func55.trans (congrArg some (by kernel_rfl))
 t3 := Try.underlying3
 a3 := Try.isAgg3
 z3 := Try.sizeOf3
 v3 := Try.zeroValue3
 t4 := Try.underlying4
 a4 := Try.isAgg4
 z4 := Try.sizeOf4
 v4 := Try.zeroValue4
 t9 := Try.underlying9
 a9 := Try.isAgg9
 z9 := Try.sizeOf9
 v9 := Try.zeroValue9
 t24 := Try.underlying66
 a24 := Try.isAgg66
 z24 := Try.sizeOf66
 v24 := Try.zeroValue66 }
open Go.RowKit in
theorem Try.strings_CutPrefix (s p : ByteArray) (w : World) :
  Calls Try.prog 37 #[.string s, .string p] w fun e w' => e = .returned (.tuple #[.string ⟨(Lib.trimPrefix s.data.toList p.data.toList).toArray⟩, .bool (Lib.hasPrefix s.data.toList p.data.toList)]) ∧ w' = w := Any.strings_CutPrefix Try.lays103 s p w
def Try.lays145_ren : Go.Shelf.Ren := ⟨fun | 145 => 38 | 220 => 56 | 219 => 68 | 217 => 75 | 225 => 76 | 224 => 77 | 267 => 78 | 266 => 88 | 314 => 89 | n => n, fun | 9 => 9 | 4 => 4 | 59 => 68 | 3 => 3 | 5 => 5 | 46 => 98 | 146 => 114 | 51 => 113 | n => n, fun | 1 => 0 | n => n⟩
theorem Try.lays145 : Go.Proofs.Lays.n145 Try.prog Try.lays145_ren := {
 mixed := by kernel_rfl
 f145 := Try.func38.trans (congrArg some (by kernel_rfl))
 f217 := Try.func75.trans (congrArg some (by kernel_rfl))
 f219 := Try.func68.trans (congrArg some (by kernel_rfl))
 f220 := Try.func56.trans (congrArg some (by kernel_rfl))
 f224 := Try.func77.trans (congrArg some (by kernel_rfl))
 f225 := Try.func76.trans (congrArg some (by kernel_rfl))
 f266 := Try.func88.trans (congrArg some (by kernel_rfl))
 f267 := Try.func78.trans (congrArg some (by kernel_rfl))
 f314 := Try.func89.trans (congrArg some (by kernel_rfl))
 t3 := Try.underlying3
 a3 := Try.isAgg3
 z3 := Try.sizeOf3
 v3 := Try.zeroValue3
 t4 := Try.underlying4
 a4 := Try.isAgg4
 z4 := Try.sizeOf4
 v4 := Try.zeroValue4
 t5 := Try.underlying5
 a5 := Try.isAgg5
 z5 := Try.sizeOf5
 v5 := Try.zeroValue5
 t9 := Try.underlying9
 a9 := Try.isAgg9
 z9 := Try.sizeOf9
 v9 := Try.zeroValue9
 t46 := Try.underlying98
 a46 := Try.isAgg98
 z46 := Try.sizeOf98
 v46 := Try.zeroValue98
 t51 := Try.underlying113
 a51 := Try.isAgg113
 z51 := Try.sizeOf113
 v51 := Try.zeroValue113
 t59 := Try.underlying68
 a59 := Try.isAgg68
 z59 := Try.sizeOf68
 v59 := Try.zeroValue68
 t146 := Try.underlying114
 a146 := Try.isAgg114
 z146 := Try.sizeOf114
 v146 := Try.zeroValue114
 g1 := by kernel_rfl }
open Go.RowKit Go.Lib in
theorem Try.strings_Cut (s sep : ByteArray) (m : Int) (w : World) (hs : s.size < 4294967281) (hm : w.cell? ⟨0, 0, none⟩ = some (.int .i64 m)) :
  Calls Try.prog 38 #[.string s, .string sep] w fun e w' => e = .returned (.tuple #[.string ⟨(Lib.cut s.data.toList sep.data.toList).1.toArray⟩, .string ⟨(Lib.cut s.data.toList sep.data.toList).2.1.toArray⟩, .bool (Lib.cut s.data.toList sep.data.toList).2.2]) ∧ ∃ n, w' = w.drewN n := Any.strings_Cut Try.lays145 s sep m w hs hm
def Try.lays100_ren : Go.Shelf.Ren := ⟨fun | 100 => 39 | 207 => 57 | n => n, fun | 9 => 9 | 4 => 4 | 3 => 3 | n => n, fun | n => n⟩
theorem Try.lays100 : Go.Proofs.Lays.n100 Try.prog Try.lays100_ren := {
 mixed := by kernel_rfl
 f100 := Try.func39.trans (congrArg some (by kernel_rfl))
 f207 := Try.func57.trans (congrArg some (by kernel_rfl))
 t3 := Try.underlying3
 a3 := Try.isAgg3
 z3 := Try.sizeOf3
 v3 := Try.zeroValue3
 t4 := Try.underlying4
 a4 := Try.isAgg4
 z4 := Try.sizeOf4
 v4 := Try.zeroValue4
 t9 := Try.underlying9
 a9 := Try.isAgg9
 z9 := Try.sizeOf9
 v9 := Try.zeroValue9 }
open Go.RowKit Go.Lib in
theorem Try.strings_HasSuffix (s p : ByteArray) (w : World) (hs : s.size ≤ 9223372036854775807) :
  Calls Try.prog 39 #[.string s, .string p] w fun e w' => e = .returned (.bool (Lib.hasSuffix s.data.toList p.data.toList)) ∧ w' = w := Any.strings_HasSuffix Try.lays100 s p w hs
def Try.lays212_ren : Go.Shelf.Ren := ⟨fun | 212 => 73 | 263 => 86 | 264 => 87 | n => n, fun | 46 => 98 | 51 => 113 | 146 => 114 | 53 => 116 | 148 => 117 | n => n, fun | n => n⟩
theorem Try.lays212 : Go.Proofs.Lays.n212 Try.prog Try.lays212_ren := {
 mixed := by kernel_rfl
 f212 := Try.func73.trans (congrArg some (by kernel_rfl))
 f263 := Try.func86.trans (congrArg some (by kernel_rfl))
 f264 := Try.func87.trans (congrArg some (by kernel_rfl))
 t46 := Try.underlying98
 a46 := Try.isAgg98
 z46 := Try.sizeOf98
 v46 := Try.zeroValue98
 t51 := Try.underlying113
 a51 := Try.isAgg113
 z51 := Try.sizeOf113
 v51 := Try.zeroValue113
 t53 := Try.underlying116
 a53 := Try.isAgg116
 z53 := Try.sizeOf116
 v53 := Try.zeroValue116
 t146 := Try.underlying114
 a146 := Try.isAgg114
 z146 := Try.sizeOf114
 v146 := Try.zeroValue114
 t148 := Try.underlying117
 a148 := Try.isAgg117
 z148 := Try.sizeOf117
 v148 := Try.zeroValue117 }
open Go.RowKit Go.Lib in
theorem Try.bits_Mul (x y : Nat) (hx : x < 18446744073709551616) (hy : y < 18446744073709551616) (w : World) :
  Calls Try.prog 73 #[.int .u64 x, .int .u64 y] w fun e w' => e = .returned (.tuple #[.int .u64 ((x * y / 18446744073709551616 : Nat) : Int), .int .u64 ((x * y % 18446744073709551616 : Nat) : Int)]) ∧ w' = w := Any.bits_Mul Try.lays212 x y hx hy w
end Go.Proofs
