/- Part 6 of the proof: Sets0. -/
import Derived.Test.YtdjhoadoiknaoaaDoorZw5
import Derived.Deep.RegionHeld3
import Derived.Deep.DeepCutAuto
import Derived.Deep.OwnRows
import Derived.StillTailTactics
set_option linter.unusedVariables false
set_option linter.unusedSimpArgs false
namespace Go.Proofs.YtdjhoadoiknaoaaDoor
open Go.RowKit
theorem pow_cast (m : Nat) : (2 : Int) ^ m = ((2 ^ m : Nat) : Int) := by simp
theorem pow_le {m n : Nat} (h : m ≤ n) : 2 ^ m ≤ 2 ^ n := Nat.pow_le_pow_right (by omega) h
theorem shl_eq {m : Nat} (h : m ≤ 60) : wrap64 ((2 : Int) ^ m) = ((2 ^ m : Nat) : Int) := by
  have h2 : 2 ^ m ≤ 2 ^ 60 := pow_le h
  rw [pow_cast]
  generalize 2 ^ m = K at h2
  exact IntWalk.wrap64_in _ ⟨by omega, by omega⟩
theorem shl_eq' {m : Nat} (h : m ≤ 60) : IntKind.i64.wrap ((2 : Int) ^ m) = ((2 ^ m : Nat) : Int) := by
  have h2 : 2 ^ m ≤ 2 ^ 60 := pow_le h
  rw [pow_cast]
  generalize 2 ^ m = K at h2
  exact IntWalk.i64_in _ (by omega)
theorem validSet_any (w : World) (a : Option Addr) (n cap : Nat) (s : Int) (hn : n ≤ 12) :
    Calls Tryd.prog 52 #[.slice a n cap, .int .i64 s] w fun e w' => e = .returned (.bool (decide (0 ≤ s ∧ s < (2 ^ n : Nat)))) ∧ w = w' := by
  have hsh := shl_eq (m := n) (by omega)
  obtain ⟨N, hN⟩ : ∃ N, N = 2 ^ n := ⟨_, rfl⟩
  rw [← hN] at hsh ⊢
  have HN := Lib.hid hN
  clear hN
  by_cases h0 : 0 ≤ s
  · go_enter Tryd.func52, Tryd.ntmps52
    go_wp2
    go_ret
    exact ⟨ret_bool (by simp [h0]), rfl⟩
  · go_enter Tryd.func52, Tryd.ntmps52
    go_wp2
    go_ret
    exact ⟨ret_bool (by simp; omega), rfl⟩
theorem mk_int (n : Nat) (h : n ≤ 4096) : ∀ w : World, (Instr.makeSlice 22 (.int .i64 (n : Int)) (.int .i64 (n : Int))).run Tryd.prog w = .ok (.slice (some ⟨w.heap.size, 0, none⟩) n n) (w.alloc (.cells (madeCells #[.int .i64 0] n) 3)) :=
  fun w => run_make_row' 22 3 (.int .i64 0) 8 Tryd.underlying22 (by kernel_rfl) rfl .i64 .i64 n (by omega) (by omega) w
theorem mk_row (n : Nat) (h : n ≤ 4096) : ∀ w : World, (Instr.makeSlice 26 (.int .i64 (n : Int)) (.int .i64 (n : Int))).run Tryd.prog w = .ok (.slice (some ⟨w.heap.size, 0, none⟩) n n) (w.alloc (.cells (madeCells #[.slice none 0 0] n) 22)) :=
  fun w => run_make_row' 26 22 (.slice none 0 0) 24 Tryd.underlying26 (by kernel_rfl) rfl .i64 .i64 n (by omega) (by omega) w
theorem made_int (n : Nat) : (madeCells #[.int .i64 0] n).toList = nats (List.replicate n 0) := by
  have := made_list (z := .int .i64 0) rfl n
  rw [Nat.mul_one] at this
  rw [nats_replicate]; exact this
theorem made_row (n : Nat) : (madeCells #[.slice none 0 0] n).toList = List.replicate n (.slice none 0 0) := by
  have := made_list (z := .slice none 0 0) rfl n
  rw [Nat.mul_one] at this
  exact this
def NewS (w wx : World) (n N : Nat) (s3 : Value) : Prop := ∃ p g0 go : Nat, s3 = .pointer (some ⟨p, 0, none⟩) ∧ wx.heap[p]? = some (.cells #[.int .i64 n, .slice (some ⟨g0, 0, none⟩) n n, .slice (some ⟨go, 0, none⟩) N N] 113 (0, 0)) ∧
  Arr wx g0 22 (List.replicate n (.slice none 0 0)) ∧ Arr wx go 3 (nats (List.replicate N 0)) ∧ w.grownBy wx none ∧ w.heap.size ≤ p ∧ w.heap.size ≤ g0 ∧ w.heap.size ≤ go
theorem newS1 (w : World) (n N : Nat) : NewS w (((w.alloc (.cells (madeCells #[.slice none 0 0] n) 22)).alloc (.cells (madeCells #[.int .i64 0] N) 3)).alloc
    (.cells #[.int .i64 n, .slice (some ⟨w.heap.size, 0, none⟩) n n, .slice (some ⟨w.heap.size + 1, 0, none⟩) N N] 113)).drew n N (.pointer (some ⟨w.heap.size + 1 + 1, 0, none⟩)) := by
  have a1 := Arr.new w 22 (madeCells #[.slice none 0 0] n)
  have a2 := Arr.new (w.alloc (.cells (madeCells #[.slice none 0 0] n) 22)) 3 (madeCells #[.int .i64 0] N)
  rw [alloc_size] at a2
  rw [made_row] at a1
  rw [made_int] at a2
  have b1 := (a1.kept (World.grownBy_alloc _ (.cells (madeCells #[.int .i64 0] N) 3) none) (by simp)).kept (World.grownBy_alloc _ (.cells #[.int .i64 n, .slice (some ⟨w.heap.size, 0, none⟩) n n, .slice (some ⟨w.heap.size + 1, 0, none⟩) N N] 113) none) (by simp)
  have b2 := a2.kept (World.grownBy_alloc _ (.cells #[.int .i64 n, .slice (some ⟨w.heap.size, 0, none⟩) n n, .slice (some ⟨w.heap.size + 1, 0, none⟩) N N] 113) none) (by simp)
  refine ⟨w.heap.size + 1 + 1, w.heap.size, w.heap.size + 1, rfl, ?_, b1.of_heap rfl, b2.of_heap rfl, grownBy_same (grown_alloc (grown_alloc (World.grownBy_alloc w _ none) _) _) rfl rfl rfl rfl, by omega, Nat.le_refl _, by omega⟩
  have := heap_alloc_new ((w.alloc (.cells (madeCells #[.slice none 0 0] n) 22)).alloc (.cells (madeCells #[.int .i64 0] N) 3)) (.cells #[.int .i64 n, .slice (some ⟨w.heap.size, 0, none⟩) n n, .slice (some ⟨w.heap.size + 1, 0, none⟩) N N] 113)
  rw [alloc_size, alloc_size] at this
  exact this
theorem newS2 (w : World) (n N : Nat) : NewS w (((w.alloc (.cells (madeCells #[.int .i64 0] N) 3)).alloc (.cells (madeCells #[.slice none 0 0] n) 22)).alloc
    (.cells #[.int .i64 n, .slice (some ⟨w.heap.size + 1, 0, none⟩) n n, .slice (some ⟨w.heap.size, 0, none⟩) N N] 113)).drew n N (.pointer (some ⟨w.heap.size + 1 + 1, 0, none⟩)) := by
  have a1 := Arr.new w 3 (madeCells #[.int .i64 0] N)
  have a2 := Arr.new (w.alloc (.cells (madeCells #[.int .i64 0] N) 3)) 22 (madeCells #[.slice none 0 0] n)
  rw [alloc_size] at a2
  rw [made_int] at a1
  rw [made_row] at a2
  have b1 := (a1.kept (World.grownBy_alloc _ (.cells (madeCells #[.slice none 0 0] n) 22) none) (by simp)).kept (World.grownBy_alloc _ (.cells #[.int .i64 n, .slice (some ⟨w.heap.size + 1, 0, none⟩) n n, .slice (some ⟨w.heap.size, 0, none⟩) N N] 113) none) (by simp)
  have b2 := a2.kept (World.grownBy_alloc _ (.cells #[.int .i64 n, .slice (some ⟨w.heap.size + 1, 0, none⟩) n n, .slice (some ⟨w.heap.size, 0, none⟩) N N] 113) none) (by simp)
  refine ⟨w.heap.size + 1 + 1, w.heap.size + 1, w.heap.size, rfl, ?_, b2.of_heap rfl, b1.of_heap rfl, grownBy_same (grown_alloc (grown_alloc (World.grownBy_alloc w _ none) _) _) rfl rfl rfl rfl, by omega, by omega, Nat.le_refl _⟩
  have := heap_alloc_new ((w.alloc (.cells (madeCells #[.int .i64 0] N) 3)).alloc (.cells (madeCells #[.slice none 0 0] n) 22)) (.cells #[.int .i64 n, .slice (some ⟨w.heap.size + 1, 0, none⟩) n n, .slice (some ⟨w.heap.size, 0, none⟩) N N] 113)
  rw [alloc_size, alloc_size] at this
  exact this
def rowOf (n : Nat) (tb : Nat → Nat → Nat) (x : Nat) : List Nat := (List.range (2 ^ n)).map fun b => prodSet n tb (1 <<< x) b
def rowPart (n : Nat) (tb : Nat → Nat → Nat) (x j : Nat) : List Nat := (List.range (2 ^ n)).map fun b => if b < j then prodSet n tb (1 <<< x) b else 0
theorem rowPart_length (n : Nat) (tb : Nat → Nat → Nat) (x j : Nat) : (rowPart n tb x j).length = 2 ^ n := by simp [rowPart]
theorem rowOf_length (n : Nat) (tb : Nat → Nat → Nat) (x : Nat) : (rowOf n tb x).length = 2 ^ n := by simp [rowOf]
theorem rowPart_get {n : Nat} {tb : Nat → Nat → Nat} {x j b : Nat} (hb : b < 2 ^ n) : (rowPart n tb x j).getD b 0 = if b < j then prodSet n tb (1 <<< x) b else 0 := by
  simp [rowPart, List.getD, hb]
theorem rowOf_get {n : Nat} {tb : Nat → Nat → Nat} {x b : Nat} (hb : b < 2 ^ n) : (rowOf n tb x).getD b 0 = prodSet n tb (1 <<< x) b := by
  simp [rowOf, List.getD, hb]
theorem rowPart_set {n : Nat} {tb : Nat → Nat → Nat} {x j : Nat} : (rowPart n tb x j).set j (prodSet n tb (1 <<< x) j) = rowPart n tb x (j + 1) := by
  apply List.ext_getElem
  · simp [rowPart]
  · intro i h1 h2
    rw [List.getElem_set]
    simp only [rowPart, List.getElem_map, List.getElem_range]
    by_cases e : j = i
    · subst e; simp
    · rw [if_neg e]
      by_cases h : i < j
      · rw [if_pos h, if_pos (by omega)]
      · rw [if_neg h, if_neg (by omega)]
theorem rowPart_full (n : Nat) (tb : Nat → Nat → Nat) (x j : Nat) (h : 2 ^ n ≤ j) : rowPart n tb x j = rowOf n tb x := by
  unfold rowPart rowOf
  refine List.map_congr_left fun b hb => ?_
  rw [List.mem_range] at hb
  rw [if_pos (by omega)]
theorem rowPart_zero (n : Nat) (tb : Nat → Nat → Nat) (x : Nat) : rowPart n tb x 1 = List.replicate (2 ^ n) 0 := by
  apply List.ext_getElem
  · simp [rowPart]
  · intro i h1 h2
    simp only [rowPart, List.getElem_map, List.getElem_range, List.getElem_replicate]
    split
    · have : i = 0 := by omega
      subst this
      apply Nat.eq_of_testBit_eq
      intro z
      rw [Nat.zero_testBit, ← Bool.not_eq_true, prodSet_bit]
      rintro ⟨_, y, _, _, _, h, _⟩
      simp at h
    · rfl
theorem lt64 {j n : Nat} (hj : j < 2 ^ n) (hn : n ≤ 12) : j < 18446744073709551616 := by
  have := pow_le hn
  omega
theorem row_step {n : Nat} {tb : Nat → Nat → Nat} {x j : Nat} (hx : x < n) (h0 : j ≠ 0) (hj : j < 2 ^ n) (hn : n ≤ 12) : prodSet n tb (1 <<< x) (rest j) ||| 1 <<< tb x (low j) = prodSet n tb (1 <<< x) j := by
  have h64 := lt64 hj hn
  refine eq_prodSet fun z => ?_
  rw [Nat.testBit_or, Bool.or_eq_true, prodSet_bit, testBit_one_shl, decide_eq_true_eq]
  constructor
  · rintro (⟨a, y, ha, hy, h1, h2, e⟩ | e)
    · rw [rest_bit h0 h64, Bool.and_eq_true] at h2
      exact ⟨a, y, ha, hy, h1, h2.1, e⟩
    · exact ⟨x, low j, hx, low_lt h0 hj (by omega), by rw [testBit_one_shl]; simp, low_bit h0 h64, e⟩
  · rintro ⟨a, y, ha, hy, h1, h2, e⟩
    rw [testBit_one_shl, decide_eq_true_eq] at h1
    subst h1
    by_cases hl : y = low j
    · subst hl; exact .inr e
    · exact .inl ⟨x, y, ha, hy, by rw [testBit_one_shl]; simp, by rw [rest_bit h0 h64, h2]; simp [hl], e⟩
theorem prod_step {n : Nat} {tb : Nat → Nat → Nat} {a b : Nat} (h0 : a ≠ 0) (ha : a < 2 ^ n) (hn : n ≤ 12) : prodSet n tb (1 <<< low a) b ||| prodSet n tb (rest a) b = prodSet n tb a b := by
  have h64 := lt64 ha hn
  refine eq_prodSet fun z => ?_
  rw [Nat.testBit_or, Bool.or_eq_true, prodSet_bit, prodSet_bit]
  constructor
  · rintro (⟨x, y, hx, hy, h1, h2, e⟩ | ⟨x, y, hx, hy, h1, h2, e⟩)
    · rw [testBit_one_shl, decide_eq_true_eq] at h1
      subst h1
      exact ⟨_, y, hx, hy, low_bit h0 h64, h2, e⟩
    · rw [rest_bit h0 h64, Bool.and_eq_true] at h1
      exact ⟨x, y, hx, hy, h1.1, h2, e⟩
  · rintro ⟨x, y, hx, hy, h1, h2, e⟩
    by_cases hl : x = low a
    · subst hl; exact .inl ⟨_, y, hx, hy, by rw [testBit_one_shl]; simp, h2, e⟩
    · exact .inr ⟨x, y, hx, hy, by rw [rest_bit h0 h64, h1]; simp [hl], h2, e⟩
theorem prod_zero {n : Nat} {tb : Nat → Nat → Nat} {b : Nat} : prodSet n tb 0 b = 0 := by
  apply Nat.eq_of_testBit_eq
  intro z
  rw [Nat.zero_testBit, ← Bool.not_eq_true, prodSet_bit]
  rintro ⟨x, y, _, _, h, _⟩
  simp at h
def hdrs (gr : Nat → Nat) (N n k : Nat) : List Value := (List.range n).map fun x => if x < k then .slice (some ⟨gr x, 0, none⟩) N N else .slice none 0 0
theorem hdrs_length (gr : Nat → Nat) (N n k : Nat) : (hdrs gr N n k).length = n := by simp [hdrs]
theorem hdrs_zero (gr : Nat → Nat) (N n : Nat) : hdrs gr N n 0 = List.replicate n (.slice none 0 0) := by
  apply List.ext_getElem
  · simp [hdrs]
  · intro i h1 h2; simp [hdrs]
theorem hdrs_get {gr : Nat → Nat} {N n k x : Nat} (hx : x < k) (hn : x < n) : (hdrs gr N n k)[x]'(by rw [hdrs_length]; exact hn) = .slice (some ⟨gr x, 0, none⟩) N N := by simp [hdrs, hx]
theorem hdrs_set {gr : Nat → Nat} {N n k q : Nat} : (hdrs gr N n k).set k (.slice (some ⟨q, 0, none⟩) N N) = hdrs (fun x => if x = k then q else gr x) N n (k + 1) := by
  apply List.ext_getElem
  · simp [hdrs]
  · intro i h1 h2
    rw [List.getElem_set]
    simp only [hdrs, List.getElem_map, List.getElem_range]
    by_cases e : k = i
    · subst e; simp
    · rw [if_neg e]
      by_cases h : i < k
      · rw [if_pos h, if_pos (by omega), if_neg (by omega)]
      · rw [if_neg h, if_neg (by omega)]
structure SetsAt (F C : Nat) (w : World) (p go g0 n k kh : Nat) (tb : Nat → Nat → Nat) (gr : Nat → Nat) (om : List Nat) : Prop where
  box : w.heap[p]? = some (.cells #[.int .i64 n, .slice (some ⟨g0, 0, none⟩) n n, .slice (some ⟨go, 0, none⟩) (2 ^ n) (2 ^ n)] 113 (0, 0))
  rows : Arr w g0 22 (hdrs gr (2 ^ n) n kh)
  rowc : ∀ x, x < k → Arr w (gr x) 3 (nats (rowOf n tb x))
  oms : Arr w go 3 (nats om)
  oml : om.length = 2 ^ n
  omok : ∀ a, a < 2 ^ n → om.getD a 0 = 0 ∨ om.getD a 0 = 1 + omegaSet n tb a
  ne : ∀ x, x < k → gr x ≠ go
  lop : F ≤ p ∧ p < C
  log : F ≤ g0 ∧ g0 < C
  loo : F ≤ go ∧ go < C
  lor : ∀ x, x < k → F ≤ gr x ∧ gr x < C
def SetsOk (F C : Nat) (w : World) (p go n : Nat) (tb : Nat → Nat → Nat) : Prop := ∃ g0 gr om, SetsAt F C w p go g0 n n n tb gr om
theorem SetsAt.kept {F C p go g0 n k kh : Nat} {w w' : World} {tb : Nat → Nat → Nat} {gr : Nat → Nat} {om : List Nat} {row : Option Nat} (h : SetsAt F C w p go g0 n k kh tb gr om) (hg : w.grownBy w' row) (hr : ∀ q, row = some q → q < F ∨ C ≤ q) : SetsAt F C w' p go g0 n k kh tb gr om := by
  have key : ∀ q, F ≤ q → q < C → row ≠ some q := fun q h1 h2 e => by have := hr q e; omega
  exact ⟨block_kept h.box hg (key p h.lop.1 h.lop.2), h.rows.kept hg (key g0 h.log.1 h.log.2), fun x hx => (h.rowc x hx).kept hg (key _ (h.lor x hx).1 (h.lor x hx).2), h.oms.kept hg (key go h.loo.1 h.loo.2), h.oml, h.omok, h.ne, h.lop, h.log, h.loo, h.lor⟩
theorem SetsOk.kept {F C p go n : Nat} {w w' : World} {tb : Nat → Nat → Nat} {row : Option Nat} (h : SetsOk F C w p go n tb) (hg : w.grownBy w' row) (hr : ∀ q, row = some q → q < F ∨ C ≤ q) : SetsOk F C w' p go n tb := by
  obtain ⟨g0, gr, om, h⟩ := h
  exact ⟨g0, gr, om, h.kept hg hr⟩
theorem SetsAt.up {F C C' p go g0 n k kh : Nat} {w : World} {tb : Nat → Nat → Nat} {gr : Nat → Nat} {om : List Nat} (h : SetsAt F C w p go g0 n k kh tb gr om) (hC : C ≤ C') : SetsAt F C' w p go g0 n k kh tb gr om :=
  ⟨h.box, h.rows, h.rowc, h.oms, h.oml, h.omok, h.ne, ⟨h.lop.1, by have := h.lop.2; omega⟩, ⟨h.log.1, by have := h.log.2; omega⟩, ⟨h.loo.1, by have := h.loo.2; omega⟩, fun x hx => ⟨(h.lor x hx).1, by have := (h.lor x hx).2; omega⟩⟩
theorem newS_start {w wx : World} {n : Nat} {tb : Nat → Nat → Nat} {s3 : Value} (h : NewS w wx n (2 ^ n) s3) : ∃ p go g0, s3 = .pointer (some ⟨p, 0, none⟩) ∧ SetsAt w.heap.size wx.heap.size wx p go g0 n 0 0 tb (fun _ => 0) (List.replicate (2 ^ n) 0) ∧ w.grownBy wx none := by
  obtain ⟨p, g0, go, rfl, h1, h2, h3, h4, h5, h6, h7⟩ := h
  refine ⟨p, go, g0, rfl, ⟨h1, by rw [hdrs_zero]; exact h2, fun x hx => absurd hx (by omega), h3, by simp, fun a ha => .inl ?_, fun x hx => absurd hx (by omega), ⟨h5, lt_of_block h1⟩, ⟨h6, h2.lt⟩, ⟨h7, h3.lt⟩, fun x hx => absurd hx (by omega)⟩, h4⟩
  simp [List.getD, ha]
end Go.Proofs.YtdjhoadoiknaoaaDoor
