/- Part 16 of the proof: BPre, Made, MadeWord, Fam1. -/
import Derived.Test.YtgbfaggnnfoamaaZi15
import Derived.BigRegion
set_option linter.unusedVariables false
set_option linter.unusedSimpArgs false
namespace Go.Proofs.Ytgbfaggnnfoamaa
open Go.RowKit
def preN (k : Nat) (b : List Nat) (j : Nat) : List Nat := (List.range k).map fun a => if b.getD j 0 = a then 2 + j else 0
def tB (k : Nat) (b : List Nat) (m : Nat) : List (List Nat) := (List.range m).map (preN k b)
theorem set_replicate {k a c : Nat} : (List.replicate k 0).set a c = (List.range k).map fun i => if a = i then c else 0 := by
 refine List.ext_getElem (by simp) fun i h1 h2 => ?_
 rw [List.getElem_set]; simp
theorem preNs_succ (k : Nat) (b : List Nat) (m : Nat) : tB k b (m + 1) = tB k b m ++ [preN k b m] := by
 simp [tB, List.range_succ]
theorem u8_sub {c : Nat} (h : 97 ≤ c) (h2 : c < 256) : IntKind.u8.wrap ((c : Int) - 97) = ((c - 97 : Nat) : Int) := by
 unfold IntKind.wrap; simp [IntKind.bits, IntKind.signed]; omega
def RowsLeft (W0 : World) (bb k : Nat) (t : List (List Nat)) (e : Ending) (W' : World) : Prop := ∃ gs sn cn, e = .returned (.tuple #[]) ∧ BB W0 W' bb k t gs sn cn
set_option maxRecDepth 100000 in
set_option maxHeartbeats 800000 in
theorem bprefix_any (W0 W : World) (bb k : Nat) (t : List (List Nat)) (gs : List Nat) (sn : Option Addr) (cn : Nat) (u : ByteArray) (h : BB W0 W bb k t gs sn cn) (ht : t.length = 1) (hk1 : 1 ≤ k) (hk6 : k ≤ 6) (hu : zU u (k : Int) = true) (hl : u.size ≤ 64) :
  Calls Try.prog 45 #[.pointer (some ⟨bb, 0, none⟩), .string u] W (RowsLeft W0 bb k (t ++ tB k (zH u) u.size)) := by
 have H := Kh h
 have HU := Kh (sS hu)
 have hl1 : t.length ≤ 1 := by omega
 have HT := Kh ht
 clear h hu ht
 go_enter Try.func45, Try.ntmps45
 go_wp2_with fail
 go_loopg [4, 5, 8] u.size (fun gh a4 a5 i wr => ∃ (j : Nat) (gs : List Nat) (sn : Option Addr) (cn : Nat), gh + j = u.size ∧ i = .int .i64 j ∧ BB W0 wr bb k (t ++ tB k (zH u) j) gs sn cn)
 case atStart => exact ⟨0, gs, sn, cn, rfl, rfl, by simpa [tB] using H.out⟩
 case round =>
  clear H
  obtain ⟨j, gs, sn, cn, hgh, rfl, hbb⟩ := hrel
  have HGH := Kh hgh; have HBB := Kh hbb
  clear hgh
  by_cases hj : j < u.size
  ·have hj' : (j : Int) < u.size := by omega
   have htl : (t ++ tB k (zH u) j).length = j + 1 := by have := HT.out; simp [tB]; omega
   have HTL := Kh htl
   go_wp2_with fail
   refine (sI W0 wr bb k _ gs sn cn 0 hbb hk1 hk6 (by omega)).mono ?_
   rintro e w1 ⟨g, sn1, cn1, rfl, hb1⟩
   obtain ⟨c0, c1, f1⟩ := hb1.cells
   have hr := hb1.last
   rw [List.length_append, htl] at c1
   have hb := HU.out.2.1 j hj
   obtain ⟨by0, hby⟩ : ∃ b, b = u[j].toNat := ⟨_, rfl⟩
   have h256 : by0 < 256 := by rw [hby]; exact u[j].toNat_lt
   rw [← hby] at hb
   obtain ⟨a, ha⟩ : ∃ a, a = by0 - 97 := ⟨_, rfl⟩
   have hu8 := u8_sub hb.1 h256
   rw [← ha] at hu8
   have hu8' : ((by0 : Int) - 97) % 256 = (a : Int) := by omega
   have hak : a < k := by omega
   have hak' : (a : Int) < k := by omega
   have ca := hr.1.nat a (by simp; omega)
   have fa := hr.1.frozen a
   have hlet : (zH u).getD j 0 = a := by rw [pW hj, ← hby, ha]
   have HL := Kh hlet; have HB1 := Kh hb1; have HR := Kh hr; 
   have hbys : (u[j].toNat : Int) = (by0 : Int) := by rw [hby]
   clear hb hby ha hr hbb hb1 hlet htl
   go_wp2_with fail
   go_region
   all_goals (try go_frame)
   all_goals go_wp2
   all_goals
    go_roundg (u.size - (j + 1))
    case measure => have := HGH.out; omega
    case rel =>
     have hp := (HB1.out.putLast hak (2 + j)).grow (zX _ none)
     have e : ((2 + j : Nat) : Int) = (j : Int) + 1 + 1 := by omega
     rw [e, set_replicate, ← HL.out, List.append_assoc] at hp
     rw [← HL.out]
     exact ⟨j + 1, gs ++ [g], sn1, cn1, by have := HGH.out; omega, by go_num, by rw [preNs_succ]; exact hp⟩
  ·have hju : j = u.size := by have := HGH.out; omega
   subst hju
   go_wp2
   exact bodyPost_ret (v := .tuple #[]) (by simp [results, Try.results45, go_sem]) rfl ⟨gs, sn, cn, rfl, hbb⟩
theorem kH (x n : Int) (hn : 1 ≤ n) : -n < x.tmod n ∧ x.tmod n < n := by
 constructor
 ·by_cases h : 0 ≤ x
  ·have := Int.tmod_nonneg n h; omega
  ·have h1 := Int.tmod_lt_of_pos (-x) (show (0 : Int) < n by omega)
   rw [Int.neg_tmod] at h1; omega
 ·exact Int.tmod_lt_of_pos x (by omega)
def modI (x n : Int) : Int := if n < 1 then 0 else if x.tmod n < 0 then x.tmod n + n else x.tmod n
theorem modI_nonneg (x n : Int) : 0 ≤ modI x n := by
 unfold modI; split
 ·omega
 ·have := kH x n (by omega); split <;> omega
theorem modI_lt (x n : Int) (h : 1 ≤ n) : modI x n < n := by
 have := kH x n h
 unfold modI; rw [if_neg (by omega)]; split <;> omega
theorem modI_zero (x n : Int) (h : n < 1) : modI x n = 0 := by
 unfold modI; rw [if_pos h]
set_option maxHeartbeats 400000 in
theorem mod_any (x n : Int) (w : World) (hn : n ≤ 9223372036854775807) :
  Calls Try.prog 10 #[.int .i64 x, .int .i64 n] w fun e w' => e = .returned (.int .i64 (modI x n)) ∧ w = w' := by
 by_cases h1 : n < 1
 ·go_enter Try.func10, Try.ntmps10
  go_wp2
  go_ret
  exact ⟨yL (modI_zero x n (by omega)).symm, rfl⟩
 ·have hb1 := (kH x n (by omega)).1
  have hb2 := (kH x n (by omega)).2
  go_enter Try.func10, Try.ntmps10
  go_wp2
  all_goals (go_ret; exact ⟨yL (by unfold modI; rw [if_neg (by omega)]; first | rw [if_pos (by omega)] | rw [if_neg (by omega)]), rfl⟩)
def wW (B : Nat) (w : World) (tb : Nat) : Prop :=
 ∃ (sl : Value) (zs : List Int) (n : Nat), w.heap[tb]? = some (.cells #[sl, .int .i64 n] 63 (0, 0)) ∧ Row B w sl (zs.map (Value.int .i64)) ∧ B ≤ tb ∧ n ≤ zs.length
theorem wW.lt {B : Nat} {w : World} {tb : Nat} (h : wW B w tb) : tb < w.heap.size := by
 obtain ⟨_, _, _, h, _⟩ := h
 exact (Array.getElem?_eq_some_iff.1 h).1
theorem wW.ge {B : Nat} {w : World} {tb : Nat} (h : wW B w tb) : B ≤ tb := by
 obtain ⟨_, _, _, _, _, h, _⟩ := h
 exact h
theorem wW.kept {B : Nat} {w w' : World} {tb : Nat} {row : Option Nat} (h : wW B w tb) (hg : w.grownBy w' row) (hr : ∀ k, row = some k → B ≤ k ∧ k ≠ tb) : wW B w' tb := by
 have hl := h.lt
 obtain ⟨sl, zs, n, h1, h2, h3, h4⟩ := h
 exact ⟨sl, zs, n, (hg.block tb hl (fun e => (hr tb e.symm).2 rfl)).trans h1, h2.kept hg (fun k e => (hr k e).1), h3, h4⟩
theorem wW.of_heap {B : Nat} {w w' : World} {tb : Nat} (h : wW B w tb) (e : w'.heap = w.heap) : wW B w' tb := by
 obtain ⟨sl, zs, n, h1, h2, h3, h4⟩ := h
 exact ⟨sl, zs, n, by rw [e]; exact h1, h2.of_heap e, h3, h4⟩
theorem tape_step {B : Nat} {w : World} {tb : Nat} {sl : Value} {zs : List Int} {n : Nat} (h1 : w.heap[tb]? = some (.cells #[sl, .int .i64 n] 63 (0, 0))) (h2 : Row B w sl (zs.map (Value.int .i64))) (h3 : B ≤ tb) (h4 : n < zs.length) :
  wW B (w.setCell ⟨tb, 1, none⟩ (.int .i64 ((n : Int) + 1))) tb :=
 ⟨sl, zs, n + 1, heap_setCell_same w tb 1 _ _ _ h1, h2.kept (zC w ⟨tb, 1, none⟩ _) (by simp; omega), h3, h4⟩
def Dealt (B tb : Nat) (w : World) (n : Int) (e : Ending) (w' : World) : Prop :=
 ∃ r : Int, e = .returned (.int .i64 r) ∧ 0 ≤ r ∧ (1 ≤ n → r < n) ∧ wW B w' tb ∧ w.grownBy w' (some tb)
set_option maxHeartbeats 400000 in
theorem nT (B tb : Nat) (w : World) (n : Int) (hn : n ≤ 9223372036854775807) (hT : wW B w tb) :
  Calls Try.prog 16 #[.pointer (some ⟨tb, 0, none⟩), .int .i64 n] w (Dealt B tb w n) := by
 have HT := Kh hT
 obtain ⟨sl, zs, at_, hblk, hrow, hB, hat⟩ := hT
 have c0 : w.cell? ⟨tb, 0, none⟩ = some sl := by rw [cell_of_row w tb 0 _ _ _ hblk]; rfl
 have c1 : w.cell? ⟨tb, 1, none⟩ = some (.int .i64 at_) := by rw [cell_of_row w tb 1 _ _ _ hblk]; rfl
 have f1 : w.frozen? ⟨tb, 1, none⟩ = false := frozen_of_row w tb 1 _ _ hblk
 rcases hrow with ⟨sa, sc, rfl, hz⟩ | ⟨b, off, cap, rfl, hbB, hlc, hcm, hra⟩
 ·have HR := Kh hz; have : zs = [] := by simpa using hz
  subst this
  have : at_ = 0 := by simpa using hat
  subst this
  clear hblk hz
  go_enter Try.func16, Try.ntmps16
  go_wp2
  go_quiet (fail)
  go_wp2
  go_ret
  exact ⟨0, rfl, by omega, by omega, HT.out.kept (zJ _ _ none) (by simp), zJ _ _ _⟩
 ·rw [List.length_map] at hlc c0
  by_cases hlt : at_ < zs.length
  ·have hc := hra.2 at_ (by simpa using hlt)
   have hne : b ≠ tb := by omega
   have hmx : zs.length ≤ 9223372036854775807 := by unfold maxLen at hcm; omega
   simp only [List.getElem_map] at hc
   have HB := Kh hblk; have HR := Kh hra; clear hblk hra
   go_enter Try.func16, Try.ntmps16
   go_wp2
   go_quiet (fail)
   go_wp2
   have e1 : IntKind.i64.wrap (at_ : Int) = at_ := IntWalk.i64_in _ (by omega)
   have e2 : (at_ : Int) < zs.length := by omega
   go_quiet ((go_at_call 10; first | exact quiet_left (mod_any _ _ _ hn) | exact quiet_add_left (mod_any _ _ _ hn)))
   go_wp2
   go_ret
   refine ⟨modI zs[at_] n, rfl, modI_nonneg _ _, modI_lt _ _, ?_, ?_⟩
   ·exact wW.of_heap (tape_step HB.out (.inr ⟨b, off, cap, by rw [List.length_map], hbB, by simpa using hlc, hcm, HR.out⟩) hB hlt) rfl
   ·exact yZ (zC w ⟨tb, 1, none⟩ _) rfl rfl rfl rfl
  ·have hmx : zs.length ≤ 9223372036854775807 := by unfold maxLen at hcm; omega
   clear hblk hra
   go_enter Try.func16, Try.ntmps16
   go_wp2
   go_quiet (fail)
   go_wp2
   go_ret
   exact ⟨0, rfl, by omega, by omega, HT.out.kept (zJ _ _ none) (by simp), zJ _ _ _⟩
def NewTape (B : Nat) (w : World) (e : Ending) (w' : World) : Prop :=
 e = .returned (.pointer (some ⟨w.heap.size, 0, none⟩)) ∧ wW B w' w.heap.size ∧ w.grownBy w' none
theorem kS {B : Nat} {w : World} {sl : Value} {zs : List Int} (h : Row B w sl (zs.map (Value.int .i64))) (hB : B ≤ w.heap.size) :
  NewTape B w (.returned (.pointer (some ⟨w.heap.size, 0, none⟩))) (w.alloc (.cells #[sl, .int .i64 0] 63)) :=
 ⟨rfl, ⟨sl, zs, 0, heap_alloc_new w _, h.kept (World.grownBy_alloc w _ none) (by simp), hB, Nat.zero_le _⟩, World.grownBy_alloc w _ none⟩
theorem Row.cut {B : Nat} {w : World} {b off cap : Nat} {xs : List Value} (n : Nat) (hn : n ≤ xs.length) (hb : b < B) (hc : xs.length ≤ cap) (hm : cap ≤ maxLen) (h : wE w b off xs) :
  Row B w (.slice (some ⟨b, off, none⟩) n cap) (xs.take n) :=
 .inr ⟨b, off, cap, by rw [List.length_take, Nat.min_eq_left hn], hb, by rw [List.length_take]; omega, hm, h.1, fun i hi => by
  rw [List.length_take] at hi
  rw [h.2 i (by omega), List.getElem_take]⟩
set_option maxHeartbeats 400000 in
theorem new_any (B : Nat) (w : World) (sl : Value) (zs : List Int) (h : Row B w sl (zs.map (Value.int .i64))) (hB : B ≤ w.heap.size) :
  Calls Try.prog 15 #[sl] w (NewTape B w) := by
 have HH := Kh h
 rcases h with ⟨sa, sc, rfl, hz⟩ | ⟨b, off, cap, rfl, hbB, hlc, hcm, hra⟩
 ·have HZ := Kh hz; clear hz
  go_enter Try.func15, Try.ntmps15
  go_wp2
  go_ret
  exact kS HH.out hB
 ·rw [List.length_map] at *
  have hmx : cap ≤ 9223372036854775807 := by unfold maxLen at hcm; omega
  by_cases h80 : 80 < zs.length
  ·go_enter Try.func15, Try.ntmps15
   go_wp2
   go_ret
   refine kS (zs := zs.take 80) ?_ hB
   rw [List.map_take]
   exact Row.cut 80 (by simp; omega) hbB (by simpa using hlc) hcm hra
  ·go_enter Try.func15, Try.ntmps15
   go_wp2
   go_ret
   exact kS HH.out hB
theorem elem_u8 : ElemOk Try.prog 64 5 (.int .u8 0) 1 := ⟨Try.underlying64, by kernel_rfl, rfl⟩
def qH (letters : Int) (n : Int) : Prop := 97 ≤ n ∧ n < 97 + letters
def Worded (B tb : Nat) (w : World) (letters most : Int) (e : Ending) (w' : World) : Prop :=
 ∃ l : List Int, e = .returned (.string (strOfNums l)) ∧ (l.length : Int) ≤ most ∧ (∀ n ∈ l, qH letters n) ∧ wW B w' tb ∧ w.grownBy w' (some tb)
set_option maxRecDepth 100000 in
set_option maxHeartbeats 400000 in
theorem kF (B tb : Nat) (w : World) (letters most : Int) (h1 : 1 ≤ letters) (h6 : letters ≤ 6) (h0 : 0 ≤ most) (hm : most ≤ 1000) (hT : wW B w tb) :
  Calls Try.prog 18 #[.pointer (some ⟨tb, 0, none⟩), .int .i64 letters, .int .i64 most] w (Worded B tb w letters most) := by
 have htb := hT.lt
 go_enter Try.func18, Try.ntmps18
 go_wp2_with fail
 refine (nT B tb _ _ (by omega) hT).mono ?_
 rintro e w1 ⟨r, rfl, hr0, hr1, hT1, hg1⟩
 replace hr1 := hr1 (by omega)
 go_wp2
 go_loopw [7, 8] (fun v i wr => ∃ (sa : Option Addr) (sc : Nat) (l : List Int) (r : Int), v = .slice sa l.length sc ∧ i = .int .i64 r ∧ 0 ≤ r ∧ (l.length : Int) + r ≤ most ∧ wr.ownsRow w.heap.size 5 1 (.slice sa l.length sc) l.length (l.map (Value.int .u8)) ∧ (∀ n ∈ l, qH letters n) ∧ wW B wr tb ∧ w.grownBy wr (some tb))
  (fun _ i _ => (intOf i).toNat)
 case atStart => exact ⟨none, 0, [], r, rfl, rfl, hr0, by simp; omega, World.ownsRow_nil _ _ _ _, by simp, hT1, hg1⟩
 case round =>
  clear hT1 hg1
  obtain ⟨sa, sc, l, r, rfl, rfl, hr0, hlr, hown, hok, hTr, hgr⟩ := hrel
  have hsz := hgr.size
  by_cases hp : 0 < r
  ·go_wp2_with fail
   refine (nT B tb _ _ (by omega) hTr).mono ?_
   rintro e w2 ⟨x, rfl, hx0, hx1, hT2, hg2⟩
   replace hx1 := hx1 (by omega)
   have hown2 := yQ hown hg2 (by simpa using htb)
   have hsz2 := hg2.size
   go_wp2_with (at_builtin; refine app1 rfl _ _ _ rfl elem_u8 w.heap.size _ l.length (l.map (Value.int .u8)) rfl hown2 _ rfl rfl ?c1 ?c2 ?c3 ?_)
   case c1 => unfold maxLen; omega
   case c2 => omega
   case c3 => omega
   intro sa' sc' w3 hown3 hg3 hlt3
   have hlen : (l ++ [97 + x]).length = l.length + 1 := by simp
   have hb := fun k (e : (Value.slice sa l.length sc).ownBlock = some k) => (hown2.lt k e).1
   go_wp2
   go_roundw
   case rel =>
    refine ⟨sa', sc', l ++ [97 + x], r - 1, by rw [hlen], by go_num, by omega, by omega, ?_, ?_, hT2.kept hg3 ?_, ?_⟩
    ·rw [hlen, List.map_append]; exact hown3
    ·intro n hn
     rcases List.mem_append.1 hn with hn | hn
     ·exact hok n hn
     ·simp at hn; subst hn; exact ⟨by omega, by omega⟩
    ·intro k e; have := hb k e; have := hTr.ge; omega
    ·exact sF (zE hgr hg2) hg3 (.inr (.inl rfl)) (by
      rcases hv : (Value.slice sa l.length sc).ownBlock with _ | k
      ·exact .inl rfl
      ·exact .inr (.inr ⟨k, rfl, hb k hv⟩))
   case measure => simp [intOf]; omega
  ·have hst := fun dst hd => run_bytes_own (P := Try.prog) 64 5 Try.underlying64 Try.underlying5 dst hd hown
   have hst' := hst 9 Try.underlying9
   clear hst
   go_wp2
   go_ret
   exact ⟨l, rfl, by omega, hok, hTr, hgr⟩
def uB (letters : Int) : Nat → List Int → List Int × Bool
 | 0, l => (l, false)
 | i + 1, l => if l.getD i 0 - 97 < letters - 1 then (l.set i (l.getD i 0 + 1), true) else uB letters i (l.set i 97)
theorem nextAt_stop {letters : Int} {j : Nat} {c : List Int} (hj : j < c.length) (h : c[j] - 97 < letters - 1) : uB letters (j + 1) c = (c.set j (c[j] + 1), true) := by
 have h3 : c.getD j 0 = c[j] := by simp [List.getD, hj]
 unfold uB; rw [h3, if_pos h]
theorem nextAt_go {letters : Int} {j : Nat} {c : List Int} (hj : j < c.length) (h : ¬ c[j] - 97 < letters - 1) : uB letters (j + 1) c = uB letters j (c.set j 97) := by
 have h3 : c.getD j 0 = c[j] := by simp [List.getD, hj]
 rw [uB, h3, if_neg h]
set_option maxRecDepth 100000 in
set_option maxHeartbeats 400000 in
theorem next_word (g cap : Nat) (l : List Int) (letters : Int) (w : World) (h1 : 1 ≤ letters) (h6 : letters ≤ 6) (hok : ∀ n ∈ l, qH letters n) (hlen : l.length ≤ 1000)
  (hown : Arr w g 5 (l.map (Value.int .u8))) :
  Calls Try.prog 66 #[.slice (some ⟨g, 0, none⟩) l.length cap, .int .i64 letters] w fun e w' =>
   e = .returned (.bool (uB letters l.length l).2) ∧ Arr w' g 5 ((uB letters l.length l).1.map (Value.int .u8)) ∧ w.grownBy w' (some g) := by
 go_enter Try.func66, Try.ntmps66
 go_wp2
 go_loopw [5] (fun i wr => ∃ (c : List Int) (k : Nat), i = .int .i64 ((k : Int) - 1) ∧ k ≤ l.length ∧ c.length = l.length ∧ (∀ n ∈ c, qH letters n) ∧ uB letters k c = uB letters l.length l ∧
   Arr wr g 5 (c.map (Value.int .u8)) ∧ w.grownBy wr (some g))
  (fun i _ => (intOf i + 1).toNat)
 case atStart => exact ⟨l, l.length, rfl, Nat.le_refl _, rfl, hok, rfl, hown, zO _ _⟩
 case round =>
  clear hown
  obtain ⟨c, k, rfl, hk, hcl, hco, hn, hown, hg⟩ := hrel
  have CL := Kh hcl; have NX := Kh hn; clear hcl hn
  by_cases hp : 0 < k
  ·obtain ⟨j, rfl⟩ : ∃ j, k = j + 1 := ⟨k - 1, by omega⟩
   have hj : j < c.length := by rw [CL.out]; omega
   have hc := hown.cell j (by simpa using hj)
   have hf := hown.frozen j
   rw [List.getElem_map] at hc
   have hm := hco _ (List.getElem_mem hj)
   have hm1 := hm.1
   have hm2 := hm.2
   have hst := hown.set j (by simpa using hj) (.int .u8 (c[j] + 1))
   have hst' := hown.set j (by simpa using hj) (.int .u8 97)
   have e1 : ((j + 1 : Nat) : Int) - 1 = j := by omega
   rw [e1]
   have OW := Kh hown; have S1 := Kh hst; have S2 := Kh hst'; clear hown hst hst' e1 hm
   by_cases hlt : c[j] - 97 < letters - 1
   ·go_wp2
    go_ret
    rw [← NX.out, nextAt_stop hj (by omega)]
    exact ⟨rfl, by rw [List.map_set]; exact S1.out, zE hg (zC _ _ _)⟩
   ·go_wp2
    go_roundw
    case rel =>
     refine ⟨c.set j 97, j, rfl, by omega, by simp [CL.out], ?_, by rw [← NX.out, nextAt_go hj (by omega)], by rw [List.map_set]; exact S2.out, zE hg (zC _ _ _)⟩
     intro n hn
     rcases List.mem_or_eq_of_mem_set hn with hn | hn
     ·exact hco n hn
     ·subst hn; unfold qH; omega
    case measure => simp [intOf]
  ·obtain rfl : k = 0 := by omega
   go_wp2
   go_ret
   rw [← NX.out]
   exact ⟨rfl, hown, hg⟩
end Go.Proofs.Ytgbfaggnnfoamaa
