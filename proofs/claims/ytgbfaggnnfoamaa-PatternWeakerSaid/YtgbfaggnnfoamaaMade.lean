/- The makers of small data: Mod, New, Next. -/
import Derived.Test.YtgbfaggnnfoamaaBase
namespace Go.Proofs.Ytgbfaggnnfoamaa
open Go.RowKit

theorem tmod_bd (x n : Int) (hn : 1 ≤ n) : -n < x.tmod n ∧ x.tmod n < n := by
  constructor
  · by_cases h : 0 ≤ x
    · have := Int.tmod_nonneg n h; omega
    · have h1 := Int.tmod_lt_of_pos (-x) (show (0 : Int) < n by omega)
      rw [Int.neg_tmod] at h1; omega
  · exact Int.tmod_lt_of_pos x (by omega)

/-- Mod, as the code computes it. -/
def modI (x n : Int) : Int := if n < 1 then 0 else if x.tmod n < 0 then x.tmod n + n else x.tmod n
theorem modI_nonneg (x n : Int) : 0 ≤ modI x n := by
  unfold modI; split
  · omega
  · have := tmod_bd x n (by omega); split <;> omega
theorem modI_lt (x n : Int) (h : 1 ≤ n) : modI x n < n := by
  have := tmod_bd x n h
  unfold modI; rw [if_neg (by omega)]; split <;> omega
theorem modI_zero (x n : Int) (h : n < 1) : modI x n = 0 := by
  unfold modI; rw [if_pos h]

set_option maxHeartbeats 400000 in
theorem mod_any (x n : Int) (w : World) (hn : n ≤ 9223372036854775807) :
    Calls Try.prog 10 #[.int .i64 x, .int .i64 n] w fun e w' => e = .returned (.int .i64 (modI x n)) ∧ w = w' := by
  by_cases h1 : n < 1
  · go_enter Try.func10, Try.ntmps10
    go_wp2
    go_ret
    exact ⟨ret_int (modI_zero x n (by omega)).symm, rfl⟩
  · have hb1 := (tmod_bd x n (by omega)).1
    have hb2 := (tmod_bd x n (by omega)).2
    go_enter Try.func10, Try.ntmps10
    go_wp2
    all_goals (go_ret; exact ⟨ret_int (by unfold modI; rw [if_neg (by omega)]; first | rw [if_pos (by omega)] | rw [if_neg (by omega)]), rfl⟩)

/-- A tape in block tb: its list of numbers lies below block B. -/
def TapeOk (B : Nat) (w : World) (tb : Nat) : Prop :=
  ∃ (sl : Value) (zs : List Int) (n : Nat), w.heap[tb]? = some (.cells #[sl, .int .i64 n] 63 (0, 0)) ∧ Row B w sl (zs.map (Value.int .i64)) ∧ B ≤ tb ∧ n ≤ zs.length
theorem TapeOk.lt {B : Nat} {w : World} {tb : Nat} (h : TapeOk B w tb) : tb < w.heap.size := by
  obtain ⟨_, _, _, h, _⟩ := h
  exact (Array.getElem?_eq_some_iff.1 h).1
theorem TapeOk.ge {B : Nat} {w : World} {tb : Nat} (h : TapeOk B w tb) : B ≤ tb := by
  obtain ⟨_, _, _, _, _, h, _⟩ := h
  exact h
theorem TapeOk.kept {B : Nat} {w w' : World} {tb : Nat} {row : Option Nat} (h : TapeOk B w tb) (hg : w.grownBy w' row) (hr : ∀ k, row = some k → B ≤ k ∧ k ≠ tb) : TapeOk B w' tb := by
  have hl := h.lt
  obtain ⟨sl, zs, n, h1, h2, h3, h4⟩ := h
  exact ⟨sl, zs, n, (hg.block tb hl (fun e => (hr tb e.symm).2 rfl)).trans h1, h2.kept hg (fun k e => (hr k e).1), h3, h4⟩

theorem TapeOk.of_heap {B : Nat} {w w' : World} {tb : Nat} (h : TapeOk B w tb) (e : w'.heap = w.heap) : TapeOk B w' tb := by
  obtain ⟨sl, zs, n, h1, h2, h3, h4⟩ := h
  exact ⟨sl, zs, n, by rw [e]; exact h1, h2.of_heap e, h3, h4⟩
theorem tape_step {B : Nat} {w : World} {tb : Nat} {sl : Value} {zs : List Int} {n : Nat} (h1 : w.heap[tb]? = some (.cells #[sl, .int .i64 n] 63 (0, 0))) (h2 : Row B w sl (zs.map (Value.int .i64))) (h3 : B ≤ tb) (h4 : n < zs.length) :
    TapeOk B (w.setCell ⟨tb, 1, none⟩ (.int .i64 ((n : Int) + 1))) tb :=
  ⟨sl, zs, n + 1, heap_setCell_same w tb 1 _ _ _ h1, h2.kept (grownBy_setCell w ⟨tb, 1, none⟩ _) (by simp; omega), h3, h4⟩

/-- What a call that deals one number does: the number r is below n, and only the tape's block has been written. -/
def Dealt (B tb : Nat) (w : World) (n : Int) (e : Ending) (w' : World) : Prop :=
  ∃ r : Int, e = .returned (.int .i64 r) ∧ 0 ≤ r ∧ (1 ≤ n → r < n) ∧ TapeOk B w' tb ∧ w.grownBy w' (some tb)

set_option maxHeartbeats 400000 in
theorem next_any (B tb : Nat) (w : World) (n : Int) (hn : n ≤ 9223372036854775807) (hT : TapeOk B w tb) :
    Calls Try.prog 16 #[.pointer (some ⟨tb, 0, none⟩), .int .i64 n] w (Dealt B tb w n) := by
  have HT := Lib.hid hT
  obtain ⟨sl, zs, at_, hblk, hrow, hB, hat⟩ := hT
  have c0 : w.cell? ⟨tb, 0, none⟩ = some sl := by rw [cell_of_row w tb 0 _ _ _ hblk]; rfl
  have c1 : w.cell? ⟨tb, 1, none⟩ = some (.int .i64 at_) := by rw [cell_of_row w tb 1 _ _ _ hblk]; rfl
  have f1 : w.frozen? ⟨tb, 1, none⟩ = false := frozen_of_row w tb 1 _ _ hblk
  rcases hrow with ⟨sa, sc, rfl, hz⟩ | ⟨b, off, cap, rfl, hbB, hlc, hcm, hra⟩
  · have HR := Lib.hid hz; have : zs = [] := by simpa using hz
    subst this
    have : at_ = 0 := by simpa using hat
    subst this
    clear hblk hz
    go_enter Try.func16, Try.ntmps16
    go_wp2
    go_quiet (fail)
    go_wp2
    go_ret
    exact ⟨0, rfl, by omega, by omega, HT.out.kept (grownBy_drewN _ _ none) (by simp), grownBy_drewN _ _ _⟩
  · rw [List.length_map] at hlc c0
    by_cases hlt : at_ < zs.length
    · have hc := hra.2 at_ (by simpa using hlt)
      have hne : b ≠ tb := by omega
      have hmx : zs.length ≤ 9223372036854775807 := by unfold maxLen at hcm; omega
      simp only [List.getElem_map] at hc
      have HB := Lib.hid hblk; have HR := Lib.hid hra; clear hblk hra
      go_enter Try.func16, Try.ntmps16
      go_wp2
      go_quiet (fail)
      go_wp2
      have e1 : IntKind.i64.wrap (at_ : Int) = at_ := IntWalk.i64_in _ (by omega)
      have e2 : (at_ : Int) < zs.length := by omega
      go_quiet ((go_at_call 10; first | exact quiet_left (mod_any _ _ _ hn) | exact quiet_add_left (mod_any _ _ _ hn)))
      go_wp2
      go_ret
      refine ⟨modI zs[at_] n, rfl, modI_nonneg _ _, modI_lt _ _, ?_, ?_⟩
      · exact TapeOk.of_heap (tape_step HB.out (.inr ⟨b, off, cap, by rw [List.length_map], hbB, by simpa using hlc, hcm, HR.out⟩) hB hlt) rfl
      · exact grownBy_same (grownBy_setCell w ⟨tb, 1, none⟩ _) rfl rfl rfl rfl
    · have hmx : zs.length ≤ 9223372036854775807 := by unfold maxLen at hcm; omega
      clear hblk hra
      go_enter Try.func16, Try.ntmps16
      go_wp2
      go_quiet (fail)
      go_wp2
      go_ret
      exact ⟨0, rfl, by omega, by omega, HT.out.kept (grownBy_drewN _ _ none) (by simp), grownBy_drewN _ _ _⟩

/-- What New leaves: a new tape. -/
def NewTape (B : Nat) (w : World) (e : Ending) (w' : World) : Prop :=
  e = .returned (.pointer (some ⟨w.heap.size, 0, none⟩)) ∧ TapeOk B w' w.heap.size ∧ w.grownBy w' none
theorem new_tape {B : Nat} {w : World} {sl : Value} {zs : List Int} (h : Row B w sl (zs.map (Value.int .i64))) (hB : B ≤ w.heap.size) :
    NewTape B w (.returned (.pointer (some ⟨w.heap.size, 0, none⟩))) (w.alloc (.cells #[sl, .int .i64 0] 63)) :=
  ⟨rfl, ⟨sl, zs, 0, heap_alloc_new w _, h.kept (World.grownBy_alloc w _ none) (by simp), hB, Nat.zero_le _⟩, World.grownBy_alloc w _ none⟩
theorem Row.cut {B : Nat} {w : World} {b off cap : Nat} {xs : List Value} (n : Nat) (hn : n ≤ xs.length) (hb : b < B) (hc : xs.length ≤ cap) (hm : cap ≤ maxLen) (h : RowAt w b off xs) :
    Row B w (.slice (some ⟨b, off, none⟩) n cap) (xs.take n) :=
  .inr ⟨b, off, cap, by rw [List.length_take, Nat.min_eq_left hn], hb, by rw [List.length_take]; omega, hm, h.1, fun i hi => by
    rw [List.length_take] at hi
    rw [h.2 i (by omega), List.getElem_take]⟩

set_option maxHeartbeats 400000 in
theorem new_any (B : Nat) (w : World) (sl : Value) (zs : List Int) (h : Row B w sl (zs.map (Value.int .i64))) (hB : B ≤ w.heap.size) :
    Calls Try.prog 15 #[sl] w (NewTape B w) := by
  have HH := Lib.hid h
  rcases h with ⟨sa, sc, rfl, hz⟩ | ⟨b, off, cap, rfl, hbB, hlc, hcm, hra⟩
  · have HZ := Lib.hid hz; clear hz
    go_enter Try.func15, Try.ntmps15
    go_wp2
    go_ret
    exact new_tape HH.out hB
  · rw [List.length_map] at *
    have hmx : cap ≤ 9223372036854775807 := by unfold maxLen at hcm; omega
    by_cases h80 : 80 < zs.length
    · go_enter Try.func15, Try.ntmps15
      go_wp2
      go_ret
      refine new_tape (zs := zs.take 80) ?_ hB
      rw [List.map_take]
      exact Row.cut 80 (by simp; omega) hbB (by simpa using hlc) hcm hra
    · go_enter Try.func15, Try.ntmps15
      go_wp2
      go_ret
      exact new_tape HH.out hB
end Go.Proofs.Ytgbfaggnnfoamaa
