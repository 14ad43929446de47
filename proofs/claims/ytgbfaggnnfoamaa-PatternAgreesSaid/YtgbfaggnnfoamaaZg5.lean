/- Part 5 of the proof: Made, MadeWord. -/
import Derived.Test.YtgbfaggnnfoamaaZg4
set_option linter.unusedVariables false
set_option linter.unusedSimpArgs false
namespace Go.Proofs.Ytgbfaggnnfoamaa
open Go.RowKit
theorem pO (x n : Int) (hn : 1 ≤ n) : -n < x.tmod n ∧ x.tmod n < n := by
 constructor
 ·by_cases h : 0 ≤ x
  ·have := Int.tmod_nonneg n h; omega
  ·have h1 := Int.tmod_lt_of_pos (-x) (show (0 : Int) < n by omega)
   rw [Int.neg_tmod] at h1; omega
 ·exact Int.tmod_lt_of_pos x (by omega)
def modI (x n : Int) : Int := if n < 1 then 0 else if x.tmod n < 0 then x.tmod n + n else x.tmod n
theorem modI_nonneg (x n : Int) : 0 ≤ modI x n := by
 unfold modI; split
 ·omega
 ·have := pO x n (by omega); split <;> omega
theorem modI_lt (x n : Int) (h : 1 ≤ n) : modI x n < n := by
 have := pO x n h
 unfold modI; rw [if_neg (by omega)]; split <;> omega
theorem modI_zero (x n : Int) (h : n < 1) : modI x n = 0 := by
 unfold modI; rw [if_pos h]
set_option maxHeartbeats 400000 in
theorem lI (x n : Int) (w : World) (hn : n ≤ 9223372036854775807) :
  Calls Try.prog 10 #[.int .i64 x, .int .i64 n] w fun e w' => e = .returned (.int .i64 (modI x n)) ∧ w = w' := by
 by_cases h1 : n < 1
 ·go_enter Try.func10, Try.ntmps10
  go_wp2
  go_ret
  exact ⟨zY (modI_zero x n (by omega)).symm, rfl⟩
 ·have hb1 := (pO x n (by omega)).1
  have hb2 := (pO x n (by omega)).2
  go_enter Try.func10, Try.ntmps10
  go_wp2
  all_goals (go_ret; exact ⟨zY (by unfold modI; rw [if_neg (by omega)]; first | rw [if_pos (by omega)] | rw [if_neg (by omega)]), rfl⟩)
def xM (B : Nat) (w : World) (tb : Nat) : Prop :=
 ∃ (sl : Value) (zs : List Int) (n : Nat), w.heap[tb]? = some (.cells #[sl, .int .i64 n] 63 (0, 0)) ∧ Row B w sl (zs.map (Value.int .i64)) ∧ B ≤ tb ∧ n ≤ zs.length
theorem xM.lt {B : Nat} {w : World} {tb : Nat} (h : xM B w tb) : tb < w.heap.size := by
 obtain ⟨_, _, _, h, _⟩ := h
 exact (Array.getElem?_eq_some_iff.1 h).1
theorem xM.ge {B : Nat} {w : World} {tb : Nat} (h : xM B w tb) : B ≤ tb := by
 obtain ⟨_, _, _, _, _, h, _⟩ := h
 exact h
theorem xM.kept {B : Nat} {w w' : World} {tb : Nat} {row : Option Nat} (h : xM B w tb) (hg : w.grownBy w' row) (hr : ∀ k, row = some k → B ≤ k ∧ k ≠ tb) : xM B w' tb := by
 have hl := h.lt
 obtain ⟨sl, zs, n, h1, h2, h3, h4⟩ := h
 exact ⟨sl, zs, n, (hg.block tb hl (fun e => (hr tb e.symm).2 rfl)).trans h1, h2.kept hg (fun k e => (hr k e).1), h3, h4⟩
theorem xM.of_heap {B : Nat} {w w' : World} {tb : Nat} (h : xM B w tb) (e : w'.heap = w.heap) : xM B w' tb := by
 obtain ⟨sl, zs, n, h1, h2, h3, h4⟩ := h
 exact ⟨sl, zs, n, by rw [e]; exact h1, h2.of_heap e, h3, h4⟩
theorem tape_step {B : Nat} {w : World} {tb : Nat} {sl : Value} {zs : List Int} {n : Nat} (h1 : w.heap[tb]? = some (.cells #[sl, .int .i64 n] 63 (0, 0))) (h2 : Row B w sl (zs.map (Value.int .i64))) (h3 : B ≤ tb) (h4 : n < zs.length) :
  xM B (w.setCell ⟨tb, 1, none⟩ (.int .i64 ((n : Int) + 1))) tb :=
 ⟨sl, zs, n + 1, heap_setCell_same w tb 1 _ _ _ h1, h2.kept (zC w ⟨tb, 1, none⟩ _) (by simp; omega), h3, h4⟩
def Dealt (B tb : Nat) (w : World) (n : Int) (e : Ending) (w' : World) : Prop :=
 ∃ r : Int, e = .returned (.int .i64 r) ∧ 0 ≤ r ∧ (1 ≤ n → r < n) ∧ xM B w' tb ∧ w.grownBy w' (some tb)
set_option maxHeartbeats 400000 in
theorem rV (B tb : Nat) (w : World) (n : Int) (hn : n ≤ 9223372036854775807) (hT : xM B w tb) :
  Calls Try.prog 16 #[.pointer (some ⟨tb, 0, none⟩), .int .i64 n] w (Dealt B tb w n) := by
 have HT := Kh hT
 obtain ⟨sl, zs, at_, hblk, hrow, hB, hat⟩ := hT
 have c0 : w.cell? ⟨tb, 0, none⟩ = some sl := by rw [cell_of_row w tb 0 _ _ _ hblk]; rfl
 have c1 : w.cell? ⟨tb, 1, none⟩ = some (.int .i64 at_) := by rw [cell_of_row w tb 1 _ _ _ hblk]; rfl
 have f1 : w.frozen? ⟨tb, 1, none⟩ = false := frozen_of_row w tb 1 _ _ hblk
 rcases hrow with ⟨sa, sc, rfl, hz⟩ | ⟨b, off, cap, rfl, hbB, hlc, hcm, hra⟩
 ·have HR := Kh hz; have : zs = [] := by simpa using hz
  subst this
  have : at_ = 0 := by simpa using hat
  subst this
  clear hblk hz
  go_enter Try.func16, Try.ntmps16
  go_wp2
  go_quiet (fail)
  go_wp2
  go_ret
  exact ⟨0, rfl, by omega, by omega, HT.out.kept (yT _ _ none) (by simp), yT _ _ _⟩
 ·rw [List.length_map] at hlc c0
  by_cases hlt : at_ < zs.length
  ·have hc := hra.2 at_ (by simpa using hlt)
   have hne : b ≠ tb := by omega
   have hmx : zs.length ≤ 9223372036854775807 := by unfold maxLen at hcm; omega
   simp only [List.getElem_map] at hc
   have HB := Kh hblk; have HR := Kh hra; clear hblk hra
   go_enter Try.func16, Try.ntmps16
   go_wp2
   go_quiet (fail)
   go_wp2
   have e1 : IntKind.i64.wrap (at_ : Int) = at_ := IntWalk.i64_in _ (by omega)
   have e2 : (at_ : Int) < zs.length := by omega
   go_quiet ((go_at_call 10; first | exact quiet_left (lI _ _ _ hn) | exact quiet_add_left (lI _ _ _ hn)))
   go_wp2
   go_ret
   refine ⟨modI zs[at_] n, rfl, modI_nonneg _ _, modI_lt _ _, ?_, ?_⟩
   ·exact xM.of_heap (tape_step HB.out (.inr ⟨b, off, cap, by rw [List.length_map], hbB, by simpa using hlc, hcm, HR.out⟩) hB hlt) rfl
   ·exact wK (zC w ⟨tb, 1, none⟩ _) rfl rfl rfl rfl
  ·have hmx : zs.length ≤ 9223372036854775807 := by unfold maxLen at hcm; omega
   clear hblk hra
   go_enter Try.func16, Try.ntmps16
   go_wp2
   go_quiet (fail)
   go_wp2
   go_ret
   exact ⟨0, rfl, by omega, by omega, HT.out.kept (yT _ _ none) (by simp), yT _ _ _⟩
def lP (B : Nat) (w : World) (e : Ending) (w' : World) : Prop :=
 e = .returned (.pointer (some ⟨w.heap.size, 0, none⟩)) ∧ xM B w' w.heap.size ∧ w.grownBy w' none
theorem oB {B : Nat} {w : World} {sl : Value} {zs : List Int} (h : Row B w sl (zs.map (Value.int .i64))) (hB : B ≤ w.heap.size) :
  lP B w (.returned (.pointer (some ⟨w.heap.size, 0, none⟩))) (w.alloc (.cells #[sl, .int .i64 0] 63)) :=
 ⟨rfl, ⟨sl, zs, 0, heap_alloc_new w _, h.kept (World.grownBy_alloc w _ none) (by simp), hB, Nat.zero_le _⟩, World.grownBy_alloc w _ none⟩
theorem Row.cut {B : Nat} {w : World} {b off cap : Nat} {xs : List Value} (n : Nat) (hn : n ≤ xs.length) (hb : b < B) (hc : xs.length ≤ cap) (hm : cap ≤ maxLen) (h : xN w b off xs) :
  Row B w (.slice (some ⟨b, off, none⟩) n cap) (xs.take n) :=
 .inr ⟨b, off, cap, by rw [List.length_take, Nat.min_eq_left hn], hb, by rw [List.length_take]; omega, hm, h.1, fun i hi => by
  rw [List.length_take] at hi
  rw [h.2 i (by omega), List.getElem_take]⟩
set_option maxHeartbeats 400000 in
theorem lH (B : Nat) (w : World) (sl : Value) (zs : List Int) (h : Row B w sl (zs.map (Value.int .i64))) (hB : B ≤ w.heap.size) :
  Calls Try.prog 15 #[sl] w (lP B w) := by
 have HH := Kh h
 rcases h with ⟨sa, sc, rfl, hz⟩ | ⟨b, off, cap, rfl, hbB, hlc, hcm, hra⟩
 ·have HZ := Kh hz; clear hz
  go_enter Try.func15, Try.ntmps15
  go_wp2
  go_ret
  exact oB HH.out hB
 ·rw [List.length_map] at *
  have hmx : cap ≤ 9223372036854775807 := by unfold maxLen at hcm; omega
  by_cases h80 : 80 < zs.length
  ·go_enter Try.func15, Try.ntmps15
   go_wp2
   go_ret
   refine oB (zs := zs.take 80) ?_ hB
   rw [List.map_take]
   exact Row.cut 80 (by simp; omega) hbB (by simpa using hlc) hcm hra
  ·go_enter Try.func15, Try.ntmps15
   go_wp2
   go_ret
   exact oB HH.out hB
theorem elem_u8 : ElemOk Try.prog 64 5 (.int .u8 0) 1 := ⟨Try.underlying64, by kernel_rfl, rfl⟩
def tP (letters : Int) (n : Int) : Prop := 97 ≤ n ∧ n < 97 + letters
def Worded (B tb : Nat) (w : World) (letters most : Int) (e : Ending) (w' : World) : Prop :=
 ∃ l : List Int, e = .returned (.string (strOfNums l)) ∧ (l.length : Int) ≤ most ∧ (∀ n ∈ l, tP letters n) ∧ xM B w' tb ∧ w.grownBy w' (some tb)
set_option maxRecDepth 100000 in
set_option maxHeartbeats 400000 in
theorem pN (B tb : Nat) (w : World) (letters most : Int) (h1 : 1 ≤ letters) (h6 : letters ≤ 6) (h0 : 0 ≤ most) (hm : most ≤ 1000) (hT : xM B w tb) :
  Calls Try.prog 18 #[.pointer (some ⟨tb, 0, none⟩), .int .i64 letters, .int .i64 most] w (Worded B tb w letters most) := by
 have htb := hT.lt
 go_enter Try.func18, Try.ntmps18
 go_wp2_with fail
 refine (rV B tb _ _ (by omega) hT).mono ?_
 rintro e w1 ⟨r, rfl, hr0, hr1, hT1, hg1⟩
 replace hr1 := hr1 (by omega)
 go_wp2
 go_loopw [7, 8] (fun v i wr => ∃ (sa : Option Addr) (sc : Nat) (l : List Int) (r : Int), v = .slice sa l.length sc ∧ i = .int .i64 r ∧ 0 ≤ r ∧ (l.length : Int) + r ≤ most ∧ wr.ownsRow w.heap.size 5 1 (.slice sa l.length sc) l.length (l.map (Value.int .u8)) ∧ (∀ n ∈ l, tP letters n) ∧ xM B wr tb ∧ w.grownBy wr (some tb))
  (fun _ i _ => (intOf i).toNat)
 case atStart => exact ⟨none, 0, [], r, rfl, rfl, hr0, by simp; omega, World.ownsRow_nil _ _ _ _, by simp, hT1, hg1⟩
 case round =>
  clear hT1 hg1
  obtain ⟨sa, sc, l, r, rfl, rfl, hr0, hlr, hown, hok, hTr, hgr⟩ := hrel
  have hsz := hgr.size
  by_cases hp : 0 < r
  ·go_wp2_with fail
   refine (rV B tb _ _ (by omega) hTr).mono ?_
   rintro e w2 ⟨x, rfl, hx0, hx1, hT2, hg2⟩
   replace hx1 := hx1 (by omega)
   have hown2 := xO hown hg2 (by simpa using htb)
   have hsz2 := hg2.size
   go_wp2_with (at_builtin; refine app1 rfl _ _ _ rfl elem_u8 w.heap.size _ l.length (l.map (Value.int .u8)) rfl hown2 _ rfl rfl ?c1 ?c2 ?c3 ?_)
   case c1 => unfold maxLen; omega
   case c2 => omega
   case c3 => omega
   intro sa' sc' w3 hown3 hg3 hlt3
   have hlen : (l ++ [97 + x]).length = l.length + 1 := by simp
   have hb := fun k (e : (Value.slice sa l.length sc).ownBlock = some k) => (hown2.lt k e).1
   go_wp2
   go_roundw
   case rel =>
    refine ⟨sa', sc', l ++ [97 + x], r - 1, by rw [hlen], by go_num, by omega, by omega, ?_, ?_, hT2.kept hg3 ?_, ?_⟩
    ·rw [hlen, List.map_append]; exact hown3
    ·intro n hn
     rcases List.mem_append.1 hn with hn | hn
     ·exact hok n hn
     ·simp at hn; subst hn; exact ⟨by omega, by omega⟩
    ·intro k e; have := hb k e; have := hTr.ge; omega
    ·exact uI (zH hgr hg2) hg3 (.inr (.inl rfl)) (by
      rcases hv : (Value.slice sa l.length sc).ownBlock with _ | k
      ·exact .inl rfl
      ·exact .inr (.inr ⟨k, rfl, hb k hv⟩))
   case measure => simp [intOf]; omega
  ·have hst := fun dst hd => run_bytes_own (P := Try.prog) 64 5 Try.underlying64 Try.underlying5 dst hd hown
   have hst' := hst 9 Try.underlying9
   clear hst
   go_wp2
   go_ret
   exact ⟨l, rfl, by omega, hok, hTr, hgr⟩
end Go.Proofs.Ytgbfaggnnfoamaa
