/- Part 44 of the proof: AllW, Lex, Words, Pieces, Size, Same, Known, MadeW, SomeLen. -/
import Derived.Test.YtgbfaggnnfoamaaZi43
import Derived.Shelf.Vars
set_option linter.unusedVariables false
set_option linter.unusedSimpArgs false
namespace Go.Proofs.Ytgbfaggnnfoamaa
open Go.RowKit
set_option maxRecDepth 100000 in
set_option maxHeartbeats 2000000 in
theorem all_any (B : Nat) (w : World) (v : Value) (bs : List ByteArray) (letters : Int) (s : ByteArray) (h : Row B w v (txtV bs)) (hB : B ≤ w.heap.size) (hs' : ∀ i (hi : i < bs.length), bs[i].size ≤ maxLen) (h14 : patW bs letters = 0 → vF bs ≤ 14) (hss' : s.size ≤ maxLen) (hL : SomeLen w) :
  Calls Try.prog 22 #[.agg #[v], .int .i64 letters, .string s] w fun e w' => e = .returned (.bool true) ∧ w.grownBy w' none := by
 obtain ⟨a, cap, rfl⟩ := h.shape
 rw [zR] at h ⊢
 obtain ⟨bl, hbl⟩ : ∃ bl, bl = bs.length := ⟨_, rfl⟩
 rw [← hbl] at h ⊢
 have hg1 := World.grownBy_alloc w (.cells #[.slice a bl cap] 36) none
 have hb1 := heap_alloc_new w (.cells #[.slice a bl cap] 36)
 obtain ⟨wA, hWA⟩ : ∃ w1, w1 = w.alloc (.cells #[.slice a bl cap] 36) := ⟨_, rfl⟩
 obtain ⟨P, hP⟩ : ∃ P, P = w.heap.size := ⟨_, rfl⟩
 rw [← hWA] at hg1 hb1
 rw [← hP] at hb1
 have hzA := hg1.size
 have c0 : wA.cell? ⟨P, 0, none⟩ = some (.slice a bl cap) := by simpa using zK hb1 0 (by simp)
 have HWA := Kh hWA; have HPE := Kh hP; have HB1 := Kh hb1; have HGA := Kh hg1
 have HRW : Hid (∀ W : World, wA.grownBy W none → Row B W (.slice a bl cap) (txtV bs)) := Kh (fun W hg => (h.kept hg1 (by simp)).kept hg (by simp))
 have HLA : Hid (∀ W : World, wA.grownBy W none → SomeLen W) := Kh (fun W hg => (hL.kept hg1 (by simp)).kept hg (by simp))
 have HPD := Kh (pdfa_any B wA _ bs letters (HRW.out _ (zO _ _)) (by omega) hs')
 have HS' := Kh hs'; have H14 := Kh h14
 obtain ⟨E, hE⟩ : ∃ E, E = patW bs letters := ⟨_, rfl⟩
 obtain ⟨D, hD⟩ : ∃ D, D = uJ bs letters := ⟨_, rfl⟩
 rw [← hE, ← hD] at HPD
 have HEE := Kh hE; have HDE := Kh hD
 clear h hb1 hg1 hWA hP hs' h14 hE hD hL hbl
 go_enter Try.func22, Try.ntmps22
 go_upto_region 1 with fail
 rw [← HWA.out, ← HPE.out]
 go_wp2_with fail
 refine HPD.out.mono ?_
 rintro e w6 ⟨v6, rfl, hd6, hg6⟩
 have HD6 := Kh hd6; have HG6 := Kh hg6
 obtain ⟨fv, nv, rfl, hfv, hnv⟩ := hd6
 obtain ⟨fa, fc, rfl⟩ := hfv.shape
 obtain ⟨na, nc, rfl⟩ := hnv.shape
 obtain ⟨fl, hfl⟩ : ∃ fl, fl = (bls D.final).length := ⟨_, rfl⟩
 obtain ⟨nl, hnl⟩ : ∃ nl, nl = D.next.length := ⟨_, rfl⟩
 rw [← hfl, ← hnl] at HD6 ⊢
 obtain ⟨LT, hLT⟩ : ∃ LT, LT = D.letters := ⟨_, rfl⟩
 obtain ⟨ST, hST⟩ : ∃ ST, ST = D.start := ⟨_, rfl⟩
 rw [← hLT, ← hST] at HD6 ⊢
 obtain ⟨Q, hQ⟩ : ∃ Q, Q = w6.heap.size := ⟨_, rfl⟩
 obtain ⟨w7, hw7⟩ : ∃ wo, wo = w6.alloc (.cells #[.int .i64 LT, .int .i64 ST, .slice fa fl fc, .slice na nl nc] 49) := ⟨_, rfl⟩
 have hg7 := World.grownBy_alloc w6 (.cells #[.int .i64 LT, .int .i64 ST, .slice fa fl fc, .slice na nl nc] 49) none
 have hb7 := heap_alloc_new w6 (.cells #[.int .i64 LT, .int .i64 ST, .slice fa fl fc, .slice na nl nc] 49)
 rw [← hw7] at hg7 hb7
 rw [← hQ] at hb7
 have HW7 := Kh hw7; have HQE := Kh hQ; have HB7 := Kh hb7
 have HGA7 := Kh (zB hg6 hg7 (by simp))
 have HD7 := Kh (HD6.out.kept hg7 (by simp))
 have c7 : w7.cell? ⟨P, 0, none⟩ = some (.slice a bl cap) := by simpa using zK (zA HB1.out HGA7.out (by simp)) 0 (by simp)
 have HRD := Kh (rdfa_any B w7 _ bs letters (HRW.out _ HGA7.out) HS'.out H14.out)
 rw [← HEE.out, ← HDE.out] at HRD
 clear hfv hnv hfl hnl hLT hST hQ hw7 hg7 hb7 hg6 HPD c0
 go_upto_region 2 with fail
 rw [← HW7.out, ← HQE.out]
 go_wp2_with fail
 refine HRD.out.mono ?_
 rintro e w8 ⟨v8, rfl, hd8, hg8⟩
 have HD8 := Kh hd8
 obtain ⟨fv, nv, rfl, hfv, hnv⟩ := hd8
 obtain ⟨fa', fc', rfl⟩ := hfv.shape
 obtain ⟨na', nc', rfl⟩ := hnv.shape
 obtain ⟨fl', hfl⟩ : ∃ fl, fl = (bls D.final).length := ⟨_, rfl⟩
 obtain ⟨nl', hnl⟩ : ∃ nl, nl = D.next.length := ⟨_, rfl⟩
 rw [← hfl, ← hnl] at HD8 ⊢
 obtain ⟨LT', hLT⟩ : ∃ LT, LT = D.letters := ⟨_, rfl⟩
 obtain ⟨ST', hST⟩ : ∃ ST, ST = D.start := ⟨_, rfl⟩
 rw [← hLT, ← hST] at HD8 ⊢
 obtain ⟨R, hR⟩ : ∃ Q, Q = w8.heap.size := ⟨_, rfl⟩
 obtain ⟨wo, hwo⟩ : ∃ wo, wo = w8.alloc (.cells #[.int .i64 LT', .int .i64 ST', .slice fa' fl' fc', .slice na' nl' nc'] 49) := ⟨_, rfl⟩
 have hgo := World.grownBy_alloc w8 (.cells #[.int .i64 LT', .int .i64 ST', .slice fa' fl' fc', .slice na' nl' nc'] 49) none
 have hbo := heap_alloc_new w8 (.cells #[.int .i64 LT', .int .i64 ST', .slice fa' fl' fc', .slice na' nl' nc'] 49)
 rw [← hwo] at hgo hbo
 rw [← hR] at hbo
 have HWO := Kh hwo; have HRE := Kh hR; have HBO := Kh hbo
 have G7o := Kh (zB hg8 hgo (by simp))
 have GAo := Kh (zB HGA7.out G7o.out (by simp))
 have HDo := Kh (HD8.out.kept hgo (by simp))
 have HD7o := Kh (HD7.out.kept G7o.out (by simp))
 have HV1 : Hid (∀ W : World, wo.grownBy W none → Calls Try.prog 35 #[.agg #[.slice a bl cap], .int .i64 letters] W fun e w' => e = .returned (.int .i64 E) ∧ wo.grownBy w' none) := Kh (fun W hW => (pM B W _ bs letters (HRW.out _ (zB GAo.out hW (by simp))) HS'.out).mono fun e w' ⟨he, hg⟩ => ⟨by rw [he, HEE.out], zE hW hg⟩)
 have HV2 : Hid (∀ W : World, wo.grownBy W none → Calls Try.prog 21 #[.agg #[.slice a bl cap], .int .i64 letters] W fun e w' => e = .returned (.int .i64 E) ∧ wo.grownBy w' none) := Kh (fun W hW => (mF B W _ bs letters (HRW.out _ (zB GAo.out hW (by simp))) HS'.out).mono fun e w' ⟨he, hg⟩ => ⟨by rw [he, HEE.out], zE hW hg⟩)
 obtain ⟨mm, hmm⟩ : ∃ m, m = yM bs s := ⟨_, rfl⟩
 have HM1 : Hid (∀ W : World, wo.grownBy W none → Calls Try.prog 19 #[.agg #[.slice a bl cap], .string s] W fun e w' => e = .returned (.bool mm) ∧ wo.grownBy w' none) := Kh (fun W hW => (match_row B W _ bs s (HRW.out _ (zB GAo.out hW (by simp))) HS'.out hss' (HLA.out _ (zB GAo.out hW (by simp)))).mono fun e w' ⟨he, hg⟩ => ⟨by rw [he, hmm], zE hW hg⟩)
 have HM2 : Hid (∀ W : World, wo.grownBy W none → Calls Try.prog 42 #[.agg #[.slice a bl cap], .string s] W fun e w' => e = .returned (.bool mm) ∧ wo.grownBy w' none) := Kh (fun W hW => (rMatch_any B W _ bs s (HRW.out _ (zB GAo.out hW (by simp))) HS'.out hss').mono fun e w' ⟨he, hg⟩ => ⟨by rw [he, hmm], zE hW hg⟩)
 have HSA : Hid (∀ W : World, wo.grownBy W none → Calls Try.prog 43 #[.agg #[.int .i64 LT, .int .i64 ST, .slice fa fl fc, .slice na nl nc], .agg #[.int .i64 LT', .int .i64 ST', .slice fa' fl' fc', .slice na' nl' nc']] W fun e w' => e = .returned (.bool true) ∧ wo.grownBy w' none) := Kh (fun W hW => by
  have h1 := HD7o.out.kept hW (by simp)
  have h2 := HDo.out.kept hW (by simp)
  rw [HDE.out] at h1 h2
  exact (dsame_pat _ _ W _ _ bs letters h1 h2).mono fun e w' ⟨he, hg⟩ => ⟨he, zE hW hg⟩)
 have HC : Hid (∀ W : World, wo.grownBy W none → W.cell? ⟨P, 0, none⟩ = some (.slice a bl cap) ∧ (W.cell? ⟨Q, 0, none⟩ = some (.int .i64 LT) ∧ W.cell? ⟨Q, 1, none⟩ = some (.int .i64 ST) ∧ W.cell? ⟨Q, 2, none⟩ = some (.slice fa fl fc) ∧ W.cell? ⟨Q, 3, none⟩ = some (.slice na nl nc)) ∧ W.cell? ⟨R, 0, none⟩ = some (.int .i64 LT') ∧ W.cell? ⟨R, 1, none⟩ = some (.int .i64 ST') ∧ W.cell? ⟨R, 2, none⟩ = some (.slice fa' fl' fc') ∧ W.cell? ⟨R, 3, none⟩ = some (.slice na' nl' nc')) := Kh (fun W hW => by
  have q1 := zK (zA HB1.out (zB GAo.out hW (by simp)) (by simp)) 0 (by simp)
  exact ⟨by simpa using q1, zG (zA (zA HB7.out G7o.out (by simp)) hW (by simp)), zG (zA HBO.out hW (by simp))⟩)
 obtain ⟨y0, ⟨y1, y2, y3, y4⟩, y5, y6, y7, y8⟩ := HC.out wo (zO _ _)
 have GA : wo.grownBy wo.drew none := zX _ _
 have emm : (mm == mm) = true := by simp
 have eEE : (E == E) = true := by simp
 clear hmm hfv hnv hfl hnl hLT hST hR hwo hgo hbo hg8 HRD c7
 go_upto_region 3 with fail
 rw [← HWO.out, ← HRE.out]
 go_region_held3 (fun w' => w'.cell? ⟨P, 0, none⟩ = some (.slice a bl cap) ∧ (w'.cell? ⟨Q, 0, none⟩ = some (.int .i64 LT) ∧ w'.cell? ⟨Q, 1, none⟩ = some (.int .i64 ST) ∧ w'.cell? ⟨Q, 2, none⟩ = some (.slice fa fl fc) ∧ w'.cell? ⟨Q, 3, none⟩ = some (.slice na nl nc)) ∧ w'.cell? ⟨R, 0, none⟩ = some (.int .i64 LT') ∧ w'.cell? ⟨R, 1, none⟩ = some (.int .i64 ST') ∧ w'.cell? ⟨R, 2, none⟩ = some (.slice fa' fl' fc') ∧ w'.cell? ⟨R, 3, none⟩ = some (.slice na' nl' nc'))
  (first | go_keep | exact HC.out _ (by assumption) | fail)
  (first | (go_at_call 35; (with_reducible refine (HV1.out _ (by assumption)).mono ?_); rintro e x1 ⟨rfl, hX1⟩) | (go_at_call 21; (with_reducible refine (HV2.out _ (by assumption)).mono ?_); rintro e x2 ⟨rfl, hX2⟩) | (go_at_call 19; (with_reducible refine (HM1.out _ (by assumption)).mono ?_); rintro e x3 ⟨rfl, hX3⟩) | (go_at_call 42; (with_reducible refine (HM2.out _ (by assumption)).mono ?_); rintro e x4 ⟨rfl, hX4⟩) | (go_at_call 43; (with_reducible refine (HSA.out _ (by assumption)).mono ?_); rintro e x5 ⟨rfl, hX5⟩) | fail)
 all_goals
  go_wp2
  go_ret
  exact ⟨rfl, zB (zB HGA.out GAo.out (by simp)) (by assumption) (by simp)⟩
def lex (letters : Nat) : Nat → List (List Int)
 | 0 => [[]]
 | n + 1 => (lex letters n).flatMap fun w => (List.range letters).map fun (c : Nat) => w ++ [97 + (c : Int)]
def pT (letters : Nat) (l : List Int) : List Int × Bool := uB letters l.length l
def Run (letters : Nat) : List (List Int) → Prop
 | [] => False
 | [w] => (pT letters w).2 = false
 | w :: v :: r => pT letters w = (v, true) ∧ Run letters (v :: r)
theorem run_get {letters : Nat} : ∀ {L : List (List Int)} (_ : Run letters L) (i : Nat) (hi : i < L.length), (pT letters L[i]).2 = decide (i + 1 < L.length) ∧ ∀ h : i + 1 < L.length, (pT letters L[i]).1 = L[i + 1]
 | [w], h, 0, _ => by
  have h' : (pT letters w).2 = false := h
  exact ⟨by simpa using h', by simp⟩
 | w :: v :: r, h, 0, _ => ⟨by simp [h.1], fun _ => by simp [h.1]⟩
 | w :: v :: r, h, i + 1, hi => by
  have := run_get h.2 i (by simpa using hi)
  simpa using this
theorem nextAt_front (letters : Int) (c : Int) : ∀ (i : Nat) (w : List Int), i ≤ w.length → uB letters i (w ++ [c]) = ((uB letters i w).1 ++ [c], (uB letters i w).2) := by
 intro i
 induction i with
 | zero => intro w _; rfl
 | succ i ih =>
  intro w hi
  have h1 : (w ++ [c]).getD i 0 = w.getD i 0 := by simp [List.getD, List.getElem?_append_left (show i < w.length by omega)]
  unfold uB
  rw [h1, List.set_append_left _ _ (by omega), List.set_append_left _ _ (by omega)]
  split
  ·rfl
  ·exact ih _ (by simpa using (show i ≤ w.length by omega))
theorem lZ (letters : Nat) (w : List Int) (c : Nat) (hc : c < letters) : pT letters (w ++ [97 + (c : Int)]) = if c + 1 < letters then (w ++ [97 + ((c + 1 : Nat) : Int)], true) else ((pT letters w).1 ++ [97], (pT letters w).2) := by
 unfold pT
 rw [List.length_append, List.length_singleton]
 have h1 : (w ++ [97 + (c : Int)]).getD w.length 0 = 97 + (c : Int) := by simp [List.getD]
 rw [uB, h1]
 by_cases h : c + 1 < letters
 ·rw [if_pos (by omega), if_pos h]
  simp; omega
 ·rw [if_neg (by omega), if_neg h, List.set_append_right _ _ (Nat.le_refl _)]
  simp only [Nat.sub_self, List.set_cons_zero]
  exact nextAt_front _ _ _ _ (Nat.le_refl _)
def block (letters : Nat) (w : List Int) (c : Nat) : List (List Int) := (List.range' c (letters - c)).map fun (c : Nat) => w ++ [97 + (c : Int)]
theorem qF {letters c : Nat} (w : List Int) (h : c < letters) : block letters w c = (w ++ [97 + (c : Int)]) :: block letters w (c + 1) := by
 unfold block
 rw [show letters - c = (letters - (c + 1)) + 1 by omega, List.range'_succ]
 rfl
theorem block_nil {letters c : Nat} (w : List Int) (h : letters ≤ c) : block letters w c = [] := by
 unfold block
 rw [show letters - c = 0 by omega]; rfl
theorem kT (letters n : Nat) : lex letters (n + 1) = (lex letters n).flatMap fun w => block letters w 0 := by
 simp [lex, block, List.range_eq_range']
theorem jH {letters : Nat} (w : List Int) (rest : List (List Int)) (hend : (rest = [] ∧ (pT letters w).2 = false) ∨ ∃ v r, rest = (v ++ [97]) :: r ∧ pT letters w = (v, true) ∧ Run letters rest) :
  ∀ (d c : Nat), letters = c + d → 0 < d → Run letters (block letters w c ++ rest) := by
 intro d
 induction d with
 | zero => intro c _ h; omega
 | succ d ih =>
  intro c hc _
  rw [qF w (by omega)]
  by_cases hd : d = 0
  ·subst hd
   rw [block_nil w (by omega), List.cons_append, List.nil_append]
   have hs := lZ letters w c (by omega)
   rw [if_neg (by omega)] at hs
   rcases hend with ⟨rfl, h⟩ | ⟨v, r, rfl, h, hr⟩
   ·show (pT letters _).2 = false
    rw [hs]; exact h
   ·refine ⟨?_, hr⟩
    rw [hs, h]
  ·have hi := ih (c + 1) (by omega) (by omega)
   rw [qF w (by omega)] at hi ⊢
   refine ⟨?_, hi⟩
   rw [lZ letters w c (by omega), if_pos (by omega)]
theorem run_flat {letters : Nat} (h1 : 0 < letters) : ∀ {L : List (List Int)}, Run letters L → Run letters (L.flatMap fun w => block letters w 0)
 | [w], h => by
  have := jH w [] (.inl ⟨rfl, h⟩) letters 0 (by omega) h1
  simpa using this
 | w :: v :: r, h => by
  have hr := run_flat h1 h.2
  rw [List.flatMap_cons]
  refine jH w _ (.inr ⟨v, block letters v 1 ++ r.flatMap fun w => block letters w 0, ?_, h.1, hr⟩) letters 0 (by omega) h1
  rw [List.flatMap_cons, qF v h1]
  simp
theorem run_lex {letters : Nat} (h1 : 0 < letters) : ∀ n, Run letters (lex letters n)
 | 0 => rfl
 | n + 1 => by rw [kT]; exact run_flat h1 (run_lex h1 n)
theorem lex_mem {letters : Nat} : ∀ {n : Nat} {w : List Int}, w ∈ lex letters n → w.length = n ∧ ∀ x ∈ w, qH letters x
 | 0, w, h => by simp [lex] at h; subst h; simp
 | n + 1, w, h => by
  simp only [lex, List.mem_flatMap, List.mem_map, List.mem_range] at h
  obtain ⟨v, hv, c, hc, rfl⟩ := h
  obtain ⟨h1, h2⟩ := lex_mem hv
  refine ⟨by simp [h1], fun x hx => ?_⟩
  rcases List.mem_append.1 hx with hx | hx
  ·exact h2 x hx
  ·simp at hx; subst hx; unfold qH; omega
theorem tX (letters : Nat) : ∀ n, (lex letters n).length = letters ^ n
 | 0 => rfl
 | n + 1 => by
  rw [kT, List.length_flatMap]
  have : (lex letters n).map (fun w => (block letters w 0).length) = List.replicate (letters ^ n) letters := by
   rw [← tX letters n, ← List.map_const']
   refine List.map_congr_left fun w _ => ?_
   simp [block]
  rw [this, List.sum_replicate_nat, Nat.pow_succ]
theorem lex_head {letters : Nat} (h1 : 0 < letters) : ∀ n, ∃ r, lex letters n = List.replicate n 97 :: r
 | 0 => ⟨[], rfl⟩
 | n + 1 => by
  obtain ⟨r, hr⟩ := lex_head h1 n
  rw [kT, hr, List.flatMap_cons, qF _ h1]
  refine ⟨block letters (List.replicate n 97) (0 + 1) ++ List.flatMap (fun w => block letters w 0) r, ?_⟩
  rw [List.cons_append, List.replicate_succ']
  simp
theorem allWords_upto (letters k : Nat) : (List.range (k + 1)).flatMap (lex letters) = (List.range k).flatMap (lex letters) ++ lex letters k := by
 rw [List.range_succ, List.flatMap_append]; simp
def upTo (letters n : Nat) : List (List Int) := (List.range n).flatMap (lex letters)
theorem sU (letters n : Nat) : upTo letters (n + 1) = upTo letters n ++ lex letters n := allWords_upto letters n
theorem qP (letters : Nat) (h : letters ≤ 6) : ∀ n, n ≤ 9 → (upTo letters n).length ≤ 2000000 * n
 | 0, _ => by simp [upTo]
 | n + 1, hn => by
  have h1 := qP letters h n (by omega)
  rw [sU, List.length_append, tX]
  have h2 : letters ^ n ≤ 6 ^ n := Nat.pow_le_pow_left h n
  have h3 : 6 ^ n ≤ 6 ^ 8 := Nat.pow_le_pow_right (by omega) (by omega)
  have h4 : (6 : Nat) ^ 8 = 1679616 := by decide
  omega
theorem qS (a b : List (List Int)) : strs (a ++ b) = strs a ++ strs b := by simp [strs]
theorem qR (a : List (List Int)) : (strs a).length = a.length := by simp [strs]
def Listed (w : World) (ls : List (List Int)) (e : Ending) (w' : World) : Prop :=
 ∃ (sa : Option Addr) (sc : Nat), e = .returned (.slice sa ls.length sc) ∧ RowT w'.heap.size 9 w' (.slice sa ls.length sc) (strs ls) ∧ w.grownBy w' none
set_option maxRecDepth 100000 in
set_option maxHeartbeats 400000 in
theorem words_any (letters k : Nat) (w : World) (h1 : 1 ≤ letters) (h6 : letters ≤ 6) (hk8 : k ≤ 8) :
  Calls Try.prog 52 #[.int .i64 letters, .int .i64 k] w (Listed w (upTo letters (k + 1))) := by
 go_enter Try.func52, Try.ntmps52
 go_wp2
 go_loopg [5, 11] (k + 1) (fun g v i wr => ∃ (sa : Option Addr) (sc n : Nat), g = k + 1 - n ∧ n ≤ k + 1 ∧ i = .int .i64 n ∧ v = .slice sa (upTo letters n).length sc ∧
   wr.ownsRow w.heap.size 9 1 (.slice sa (upTo letters n).length sc) (upTo letters n).length (strs (upTo letters n)) ∧ w.grownBy wr none)
 case atStart => exact ⟨none, 0, 0, rfl, by omega, rfl, rfl, World.ownsRow_nil _ _ _ _, zO _ _⟩
 case round =>
  obtain ⟨sa, sc, n, rfl, hn, rfl, rfl, hown, hg⟩ := hrel
  by_cases hlt : n < k + 1
  ·go_wp2_with fail
   refine (repeat_a _ n _ (by omega) (Arr.new _ _ _)).mono ?_
   rintro e w1 ⟨d, cap, rfl, hd, hnc, hcm, hA, hg1⟩
   have hsz := hg.size
   have hg2 : w.grownBy w1 none := zE (yV hg _) hg1
   have hown1 : w1.ownsRow w.heap.size 9 1 (.slice sa (upTo letters n).length sc) (upTo letters n).length (strs (upTo letters n)) := yQ (hown.alloc _) hg1 (by simp)
   have hup := qP letters h6 n (by omega)
   obtain ⟨rest, hL⟩ := lex_head (letters := letters) (by omega) n
   have HL := Kh hL; clear hL
   have hLpos : 0 < (lex letters n).length := by rw [HL.out]; simp
   have hA0 : Arr w1 d 5 (((lex letters n)[0]'hLpos).map (Value.int .u8)) := by simp only [HL.out]; exact hA
   have hLle : (lex letters n).length ≤ 2000000 := by
    rw [tX]
    have h2 : letters ^ n ≤ 6 ^ n := Nat.pow_le_pow_left h6 n
    have h3 : 6 ^ n ≤ 6 ^ 8 := Nat.pow_le_pow_right (by omega) (by omega)
    have h4 : (6 : Nat) ^ 8 = 1679616 := by decide
    omega
   have hrun := Kh (run_lex (letters := letters) (by omega) n)
   have hd1 : wr.heap.size < d := by have := hd; rw [zL] at this; omega
   clear hown hA hg1 hg
   go_wp2
   go_loopg [5, 8] (lex letters n).length (fun g2 v m wq => ∃ (sa : Option Addr) (sc i : Nat) (b : Bool), g2 = (lex letters n).length - i ∧ i ≤ (lex letters n).length ∧ m = .bool b ∧ (b = true ↔ i < (lex letters n).length) ∧
     v = .slice sa ((upTo letters n).length + i) sc ∧ wq.ownsRow w.heap.size 9 1 (.slice sa ((upTo letters n).length + i) sc) ((upTo letters n).length + i) (strs (upTo letters n ++ (lex letters n).take i)) ∧
     (∀ h : i < (lex letters n).length, Arr wq d 5 ((lex letters n)[i].map (Value.int .u8))) ∧ w.grownBy wq none)
   case atStart => exact ⟨sa, sc, 0, true, rfl, Nat.zero_le _, rfl, by simpa using hLpos, rfl, by simpa using hown1, fun _ => hA0, hg2⟩
   case round =>
    clear hown1 hA0 hg2
    obtain ⟨sa, sc, i, b, rfl, hi, rfl, hb, rfl, hown, hA, hg⟩ := hrel
    have HB := Kh hb; clear hb
    cases b
    ·have hiL : i = (lex letters n).length := by
      have : ¬ i < (lex letters n).length := fun h => by have := HB.out.2 h; cases this
      omega
     have HI := Kh hiL; clear hiL
     go_wp2
     go_roundg (k + 1 - (n + 1))
     case measure => omega
     case rel =>
      have e1 : (upTo letters (n + 1)).length = (upTo letters n).length + i := by rw [sU, List.length_append, HI.out]
      have e2 : upTo letters (n + 1) = upTo letters n ++ (lex letters n).take i := by rw [sU, HI.out, List.take_length]
      exact ⟨sa, sc, n + 1, rfl, by omega, by go_num, by rw [e1], by rw [e1, e2]; exact hown, hg⟩
    ·have hiL : i < (lex letters n).length := HB.out.1 rfl
     have hm := lex_mem (List.getElem_mem hiL)
     have hA1 := hA hiL
     have hst := run_bytes_arr (P := Try.prog) 64 5 Try.underlying64 Try.underlying5 9 Try.underlying9 n cap hm.1 hA1
     have HM := Kh hm; have HA1 := Kh hA1; clear hm hA1 hA
     go_wp2_with (at_builtin; refine app1 rfl _ _ _ rfl qD w.heap.size _ ((upTo letters n).length + i) (strs (upTo letters n ++ (lex letters n).take i)) rfl hown _ rfl rfl ?c1 ?c2 ?c3 ?_)
     case c1 => unfold maxLen; omega
     case c2 => omega
     case c3 => exact hg.size
     intro sa' sc' w3 hown3 hg3 hlt3
     have hb3 := fun q (e : (Value.slice sa ((upTo letters n).length + i) sc).ownBlock = some q) => (hown.lt q e).1
     have hg4 := zB hg hg3 hb3
     have hA3 := HA1.out.kept hg3 (by
      obtain ⟨cur, r, hq, _⟩ := HA1.out
      exact zM hown hq (by decide))
     have hnx := next_word d cap (lex letters n)[i] letters w3 (by omega) (by omega) HM.out.2 (by rw [HM.out.1]; omega) hA3
     rw [HM.out.1] at hnx
     have hr := run_get hrun.out i hiL
     have HR := Kh hr
     have HNX := Kh hnx
     clear hr hnx hown hg hg3 hst
     go_wp2_with fail
     refine HNX.out.mono ?_
     rintro e w4 ⟨rfl, hA4, hg5⟩
     have hown4 := hown3.kept hg5 (.inr (by
      obtain ⟨cur, r, hq, _⟩ := hA3
      exact zM hown3 hq (by decide)))
     have hg6 := zB hg4 hg5 (by simp; omega)
     go_wp2
     go_roundg ((lex letters n).length - (i + 1))
     case measure => omega
     case rel =>
      refine ⟨sa', sc', i + 1, (uB letters n (lex letters n)[i]).2, rfl, by omega, rfl, ?_, rfl, ?_, ?_, hg6⟩
      ·have := HR.out.1
       unfold pT at this
       rw [HM.out.1] at this
       rw [this]; simp
      ·have e1 : strs (upTo letters n ++ (lex letters n).take (i + 1)) = strs (upTo letters n ++ (lex letters n).take i) ++ [.string (strOfNums (lex letters n)[i])] := by
        rw [List.take_succ_eq_append_getElem hiL, ← List.append_assoc, qS]; rfl
       rw [e1]; exact hown4
      ·intro h
       have := HR.out.2 h
       unfold pT at this
       rw [HM.out.1] at this
       rw [← this]; exact hA4
  ·obtain rfl : n = k + 1 := by omega
   go_wp2
   go_ret
   exact ⟨sa, sc, rfl, RowT.of_owns hown, hg⟩
theorem elem_pat : ElemOk Try.prog 23 36 (.agg #[.slice none 0 0]) 24 := ⟨Try.underlying23, by kernel_rfl, rfl⟩
def uU (u : List Int) : List (List Int) := [[]] ++ u.map (fun c => [c]) ++ [[]]
def sG (u : List Int) (j : Nat) : List (List Int) := [[]] ++ (u.take j).map (fun c => [c])
theorem extract_one (l : List Int) (j : Nat) (hj : j < l.length) : (strOfNums l).extract j (j + 1) = strOfNums [l[j]] := by
 have h : ((strOfNums l).extract j (j + 1)).data.toList = (strOfNums [l[j]]).data.toList := by
  rw [ByteArray.data_extract, strOfNums_data, Array.toList_extract, strOfNums_data, List.extract_eq_take_drop]
  rw [List.drop_eq_getElem_cons (by simpa using hj)]
  simp
 have h2 := Array.toList_inj.1 h
 cases h3 : (strOfNums l).extract j (j + 1)
 cases h4 : strOfNums [l[j]]
 simp_all
def PatListed (w : World) (ps : List (List (List Int))) (e : Ending) (w' : World) : Prop :=
 ∃ (sa : Option Addr) (sc : Nat) (svs : List Value), e = .returned (.slice sa ps.length sc) ∧ RowT w'.heap.size 36 w' (.slice sa ps.length sc) svs ∧ uF w'.heap.size 9 strs w' svs ps ∧ w.grownBy w' none
set_option maxRecDepth 100000 in
set_option maxHeartbeats 400000 in
theorem pieces_any (letters k : Nat) (w : World) (h1 : 1 ≤ letters) (h6 : letters ≤ 6) (hk : 1 ≤ k) (hk8 : k ≤ 8) :
  Calls Try.prog 27 #[.int .i64 letters, .int .i64 k] w (PatListed w (((upTo letters (k + 1)).drop 1).map uU)) := by
 obtain ⟨ws, hws⟩ : ∃ ws, ws = upTo letters (k + 1) := ⟨_, rfl⟩
 have hlen : 2 ≤ ws.length := by
  rw [hws]; obtain ⟨k', rfl⟩ : ∃ k', k = k' + 1 := ⟨k - 1, by omega⟩
  rw [sU, sU, List.length_append, List.length_append, tX, tX]
  have := Nat.one_le_pow k' letters (by omega); have := Nat.one_le_pow (k' + 1) letters (by omega); omega
 have hle : ws.length ≤ 20000000 := by rw [hws]; have := qP letters h6 (k + 1) (by omega); omega
 have hmem : ∀ u ∈ ws, u.length ≤ 8 := by
  rw [hws]; intro u hu
  simp only [upTo, List.mem_flatMap, List.mem_range] at hu
  obtain ⟨n, hn, hu⟩ := hu
  rw [(lex_mem hu).1]; omega
 rw [← hws]
 have HWS := Kh hws; clear hws
 go_enter Try.func27, Try.ntmps27
 go_wp2_with fail
 refine (words_any letters k w h1 h6 hk8).mono ?_
 rw [← HWS.out]
 rintro e w1 ⟨sa, sc, rfl, hrow, hg1⟩
 rcases hrow with ⟨hn, hn2⟩ | ⟨b, off, cap, cur, m, hv, hb, hc1, hc2, hblk, hcell⟩
 ·exfalso; have := congrArg List.length hn2; simp [strs] at this; subst this; simp at hlen
 rw [qR] at hv hc1
 have hsc : sc = cap ∧ sa = some ⟨b, off, none⟩ := by simp at hv; exact ⟨hv.2, hv.1⟩
 obtain ⟨rfl, rfl⟩ := hsc
 clear hv
 have hRW := Kh hblk; have HC := Kh hcell; clear hblk hcell
 have hc3 : (1 : Int) < sc := by omega
 have hT1 : RowT w1.heap.size 9 w1 (.slice (some ⟨b, off, none⟩) ws.length sc) (strs ws) := .inr ⟨b, off, sc, cur, m, by rw [qR], hb, by rw [qR]; exact hc1, hc2, hRW.out, HC.out⟩
 clear hRW HC
 have hs1 := hg1.size
 go_wp2
 go_loopw [5, 15] (fun v i wr => ∃ (sa : Option Addr) (c n : Nat) (svs : List Value), i = .int .i64 n ∧ n ≤ ws.length - 1 ∧ v = .slice sa n c ∧
   wr.ownsRow w1.heap.size 36 1 (.slice sa n c) n svs ∧ uF wr.heap.size 9 strs wr svs (((ws.drop 1).take n).map uU) ∧
   RowT w1.heap.size 9 wr (.slice (some ⟨b, off, none⟩) ws.length sc) (strs ws) ∧ w.grownBy wr none ∧ w1.heap.size ≤ wr.heap.size)
  (fun _ i _ => ws.length - (intOf i).toNat)
 case atStart => exact ⟨none, 0, 0, [], rfl, Nat.zero_le _, rfl, World.ownsRow_nil _ _ _ _, by simpa using uF.nil, hT1, hg1, Nat.le_refl _⟩
 case round =>
  clear hT1 hg1
  obtain ⟨sa, c, n, svs, rfl, hn, rfl, hown, hsv, hT, hg, hs⟩ := hrel
  obtain ⟨wo, rfl⟩ : ∃ wo : World, wo = wr := ⟨_, rfl⟩
  have HSV := Kh hsv; clear hsv
  by_cases hlt : n < ws.length - 1
  ·have hlt' : (n : Int) < ((ws.length - 1 : Nat) : Int) := by omega
   have hu := hmem ws[1 + n] (List.getElem_mem (by omega))
   have hcell : wo.cell? ⟨b, off + 1 + n, none⟩ = some (.string (strOfNums ws[1 + n])) := by
    rcases hT.row with ⟨_, _, h, _⟩ | ⟨b', off', cap', hv, _, _, _, hra⟩
    ·have h2 : ws.length = 0 := by injection h
     omega
    ·simp at hv
     obtain ⟨⟨rfl, rfl⟩, _⟩ := hv
     have := hra.map (1 + n) (by omega)
     rwa [← Nat.add_assoc] at this
   obtain ⟨u, hu2⟩ : ∃ u, u = ws[1 + n] := ⟨_, rfl⟩
   have HU := Kh hu2
   rw [← hu2] at hu hcell
   have hsu : (strOfNums u).size = u.length := strOfNums_size u
   clear hu2
   go_wp2
   have g0 : wo.grownBy (wo.alloc (.cells #[.string ⟨#[]⟩] 9)) none := World.grownBy_alloc _ _ _
   have ho := World.ownsRow_lit (e := 9) (size := 1) wo #[.string ⟨#[]⟩] 1 (Nat.le_refl _) (by unfold maxLen; omega) (by simp)
   go_loopw [8, 22] (fun v i wq => ∃ (sb : Option Addr) (cb j : Nat), i = .int .i64 j ∧ j ≤ u.length ∧ v = .slice sb (1 + j) cb ∧
     wq.ownsRow wo.heap.size 9 1 (.slice sb (1 + j) cb) (1 + j) (strs (sG u j)) ∧ wo.grownBy wq none)
    (fun _ i _ => u.length - (intOf i).toNat)
   case atStart => exact ⟨_, _, 0, rfl, Nat.zero_le _, rfl, ho, g0⟩
   case round =>
    clear g0 ho
    obtain ⟨sb, cb, j, rfl, hj, rfl, hownb, hgq⟩ := hrel
    by_cases hjl : j < u.length
    ·have hex := extract_one u j hjl
     go_wp2_with (at_builtin; refine app1 rfl _ _ _ rfl qD wo.heap.size _ (1 + j) (strs (sG u j)) rfl hownb _ rfl rfl ?c1 ?c2 ?c3 ?_)
     case c1 => unfold maxLen; omega
     case c2 => omega
     case c3 => exact hgq.size
     intro sb' cb' w3 hown3 hg3 _
     have hb3 := fun q (e : (Value.slice sb (1 + j) cb).ownBlock = some q) => (hownb.lt q e).1
     have hg4 := zB hgq hg3 hb3
     have e1 : strs (sG u (j + 1)) = strs (sG u j) ++ [.string (strOfNums [u[j]])] := by
      rw [sG, sG, List.take_succ_eq_append_getElem hjl, List.map_append, ← List.append_assoc, qS]; rfl
     have HE := Kh e1; have HO3 := Kh hown3
     clear hownb hgq hg3 hex e1 hown3
     go_wp2
     go_roundw
     case rel => exact ⟨sb', cb', j + 1, by go_num, by omega, rfl, by rw [HE.out]; exact HO3.out, hg4⟩
     case measure => simp [intOf]; omega
    ·obtain ⟨ub, hub⟩ : ∃ ub, ub = sG u j := ⟨_, rfl⟩
     have hubl : ub.length = 1 + j := by rw [hub]; simp [sG]; omega
     have hubp : uU ws[1 + n] = ub ++ [[]] := by rw [← HU.out, hub, sG, List.take_of_length_le (by omega)]; rfl
     rw [← hub] at hownb
     have HUB := Kh hubl; have HUP := Kh hubp; clear hub hubl hubp
     have hown2 := hown.kept hgq (by cases (Value.slice sa n c).ownBlock <;> simp)
     have hT2 := hT.kept hgq (by simp)
     have hSV2 := HSV.out.kept hgq (by simp)
     have HS2 := Kh hSV2
     have hgw := zE hg hgq
     have hsq := hgq.size
     clear hown hT hg hSV2 HSV
     go_wp2_with (at_builtin; refine app1 rfl (.tmp 35) (.tmp 36) _ rfl qD wo.heap.size _ (1 + j) (strs ub) rfl hownb _ rfl rfl ?c1 ?c2 ?c3 ?_)
     case c1 => unfold maxLen; omega
     case c2 => omega
     case c3 => exact hsq
     intro sb' cb' w3 hown3 hg3 _
     have hb3 := fun q (e : (Value.slice sb (1 + j) cb).ownBlock = some q) => (hownb.lt q e).1
     have hot := xE hownb (e' := 36) (by decide)
     have hown4 := hown2.kept hg3 (by
      rcases hv : (Value.slice sa n c).ownBlock with _ | q
      ·exact .inl rfl
      ·refine .inr fun e => ?_
       obtain ⟨cur', e', m', hq, hne⟩ := hot q e.symm
       have := zM hown2 hq (fun h => hne h.symm)
       exact this hv)
     have hT4 := hT2.kept hg3 (fun q e => .inl (by have := hb3 q e; omega))
     have hS4 := HS2.out.kept hg3 (fun q e => .inl (hb3 q e))
     have hg4 := zB hgw hg3 (fun q e => by have := hb3 q e; have := hgw.size; omega)
     have hl3 : ub.length + 1 = (ub ++ [[]]).length := by simp
     have hR := RowT.of_owns hown3
     have e3 : strs ub ++ [.string ⟨#[]⟩] = strs (uU ws[1 + n]) := by rw [HUP.out, qS]; rfl
     rw [e3] at hR
     have E3 := Kh e3; have HR := Kh hR
     have hs3 := hg3.size
     clear hownb hown2 hown3 hT2 HS2 hg3 hot e3 hR hgw hgq hb3
     go_wp2_with (at_builtin; refine app1 rfl (.tmp 34) (.tmp 39) _ rfl elem_pat w1.heap.size _ n svs rfl hown4 _ rfl rfl ?c1 ?c2 ?c3 ?_)
     case c1 => unfold maxLen; omega
     case c2 => omega
     case c3 => omega
     intro sa5 c5 w5 hown5 hg5 _
     have hb5 := fun q (e : (Value.slice sa n c).ownBlock = some q) => (hown4.lt q e).1
     have hot5 := xE hown4 (e' := 9) (by decide)
     have hT5 := hT4.kept hg5 (fun q e => .inl (hb5 q e))
     have hS5 := (hS4.mono (by omega)).snoc (HR.out)
     have hs5 := hg5.size
     have hS6 := (hS5.kept hg5 (fun q e => .inr (hot5 q e))).mono hs5
     have hg6 := zB hg4 hg5 (fun q e => by have := hb5 q e; omega)
     clear hown4 hT4 hS4 hg4 hg5 hot5 hS5
     have HS6 := Kh hS6; clear hS6
     go_wp2
     go_roundw
     case rel =>
      refine ⟨sa5, c5, n + 1, _, by go_num, by omega, rfl, hown5, ?_, hT5, hg6, by omega⟩
      have e7 : ((ws.drop 1).take (n + 1)).map uU = ((ws.drop 1).take n).map uU ++ [uU ws[1 + n]] := by
       rw [List.take_succ_eq_append_getElem (by simp; omega), List.map_append]; simp [Nat.add_comm]
      rw [e7]; exact HS6.out
     case measure => simp [intOf]; omega
  ·have hnn : n = ws.length - 1 := by omega
   have e8 : ((ws.drop 1).take n).map uU = (ws.drop 1).map uU := by rw [List.take_of_length_le (by simp; omega)]
   have hl8 : ((ws.drop 1).map uU).length = n := by simp; omega
   have HL8 := Kh hl8; have E8 := Kh e8
   clear hnn e8 hl8
   go_wp2
   go_ret
   exact ⟨sa, c, svs, by rw [HL8.out]; rfl, by rw [HL8.out]; exact RowT.of_owns hown, by rw [← E8.out]; exact HSV.out, hg⟩
def cnt (letters : Nat) : Nat → Int × Int
 | 0 => (0, 1)
 | r + 1 => (min ((cnt letters r).1 + (cnt letters r).2) 900, min ((cnt letters r).2 * letters) 900)
theorem cnt_bd (letters : Nat) : ∀ r, 0 ≤ (cnt letters r).1 ∧ (cnt letters r).1 ≤ 900 ∧ 0 ≤ (cnt letters r).2 ∧ (cnt letters r).2 ≤ 900
 | 0 => by simp [cnt]
 | r + 1 => by
  have h := cnt_bd letters r
  have h2 : 0 ≤ (cnt letters r).2 * (letters : Int) := Int.mul_nonneg h.2.2.1 (by omega)
  simp only [cnt]; omega
set_option maxHeartbeats 400000 in
theorem qE (n : Int) (w : World) : Calls Try.prog 51 #[.int .i64 n] w fun e w' => e = .returned (.int .i64 (min n 900)) ∧ w = w' := by
 go_enter Try.func51, Try.ntmps51
 go_wp2
 all_goals (go_ret; exact ⟨yL (by omega), rfl⟩)
set_option maxHeartbeats 400000 in
theorem count_any (letters : Nat) (k : Int) (w : World) (h6 : letters ≤ 6) (hk : -1 ≤ k) (hk8 : k ≤ 8) :
  Calls Try.prog 50 #[.int .i64 letters, .int .i64 k] w fun e w' => e = .returned (.int .i64 (cnt letters (k + 1).toNat).1) ∧ w = w' := by
 obtain ⟨r, hr⟩ : ∃ r : Nat, k + 1 = r := ⟨(k + 1).toNat, by omega⟩
 have hr9 : r ≤ 9 := by omega
 have HR := Kh hr
 have e0 : (k + 1).toNat = r := by omega
 rw [e0]
 obtain rfl : k = (r : Int) - 1 := by omega
 clear e0 hr
 go_enter Try.func50, Try.ntmps50
 go_wp2
 go_loop [5, 6, 9] (fun t p i => ∃ n : Nat, n ≤ r ∧ i = .int .i64 n ∧ t = .int .i64 (cnt letters n).1 ∧ p = .int .i64 (cnt letters n).2) (fun _ _ i => r - (intOf i).toNat)
 case atStart => exact ⟨0, Nat.zero_le _, rfl, rfl, rfl⟩
 case round =>
  obtain ⟨n, hn, rfl, rfl, rfl⟩ := hrel
  have hb := cnt_bd letters n
  obtain ⟨t, ht⟩ : ∃ t, t = (cnt letters n).1 := ⟨_, rfl⟩
  obtain ⟨p, hp⟩ : ∃ p, p = (cnt letters n).2 := ⟨_, rfl⟩
  rw [← ht, ← hp] at hb ⊢
  have h1 : cnt letters (n + 1) = (min (t + p) 900, min (p * letters) 900) := by rw [ht, hp]; rfl
  have HT := Kh ht; have HP := Kh hp; have H1 := Kh h1
  obtain ⟨b1, b2, b3, b4⟩ := hb
  have hm1 : 0 ≤ p * (letters : Int) := Int.mul_nonneg b3 (by omega)
  have hm2 : p * (letters : Int) ≤ 5400 := by
   have := Int.mul_le_mul b4 (show (letters : Int) ≤ 6 by omega) (by omega) (by omega)
   omega
  clear ht hp h1
  by_cases hlt : n < r
  ·go_wp2_with fail
   refine (qE _ _).mono ?_
   rintro e w' ⟨rfl, rfl⟩
   go_wp2_with fail
   refine (qE _ _).mono ?_
   rintro e w' ⟨rfl, rfl⟩
   go_wp2
   go_round
   case rel => exact ⟨n + 1, by omega, by go_num, by rw [H1.out], by rw [H1.out]⟩
   case measure => simp [intOf]; omega
  ·go_wp2
   go_ret
   obtain rfl : n = r := by omega
   exact ⟨by rw [← HT.out]; rfl, rfl⟩
def chn (ne : Int) : Nat → Int × Int
 | 0 => (ne + 1, (ne + 1) * (ne + 1))
 | r + 1 => (min ((chn ne r).1 + (chn ne r).2) 900, min (chn ne r).2 900 * ne)
theorem chn_bd (ne : Int) (h : 0 ≤ ne) (h9 : ne ≤ 900) : ∀ r, 0 ≤ (chn ne r).1 ∧ (chn ne r).1 ≤ 901 ∧ 0 ≤ (chn ne r).2 ∧ (chn ne r).2 ≤ 811801
 | 0 => by
  have h2 : (ne + 1) * (ne + 1) ≤ 901 * 901 := Int.mul_le_mul (by omega) (by omega) (by omega) (by omega)
  have h3 : 0 ≤ (ne + 1) * (ne + 1) := Int.mul_nonneg (by omega) (by omega)
  simp only [chn]; omega
 | r + 1 => by
  have hb := chn_bd ne h h9 r
  have h2 : min (chn ne r).2 900 * ne ≤ 900 * 900 := Int.mul_le_mul (by omega) h9 h (by omega)
  have h3 : 0 ≤ min (chn ne r).2 900 * ne := Int.mul_nonneg (by omega) h
  simp only [chn]; omega
def sizeV (kind : Int) (letters : Nat) (k m : Int) : Int :=
 let ne := (cnt letters (k + 1).toNat).1 - 1
 let sh := (cnt letters k.toNat).1
 if kind = 1 then ne + 1 else if kind = 2 ∨ kind = 3 then sh + ne else if kind = 4 then sh + 2 * ne else if kind = 5 then sh + 3 * ne else if kind = 6 then ne else (chn ne (m + 1).toNat).1
theorem cnt_pos (letters r : Nat) : 1 ≤ (cnt letters (r + 1)).1 := by
 induction r with
 | zero => show (1 : Int) ≤ min (0 + 1) 900; decide
 | succ r ih =>
  have := cnt_bd letters (r + 1)
  rw [cnt]; simp only; omega
set_option maxHeartbeats 1000000 in
theorem size_any (kind : Int) (letters : Nat) (k m : Int) (w : World) (h1 : 1 ≤ kind) (h7 : kind ≤ 7) (h6 : letters ≤ 6) (hk : 0 ≤ k) (hk8 : k ≤ 8) (hm : 0 ≤ m) (hm4 : m ≤ 4) :
  Calls Try.prog 26 #[.int .i64 kind, .int .i64 letters, .int .i64 k, .int .i64 m] w fun e w' => e = .returned (.int .i64 (sizeV kind letters k m)) ∧ w = w' := by
 have hb1 := cnt_bd letters (k + 1).toNat
 have hb2 := cnt_bd letters k.toNat
 have hp : 1 ≤ (cnt letters (k + 1).toNat).1 := by
  rw [show (k + 1).toNat = k.toNat + 1 by omega]; exact cnt_pos _ _
 have c1 := fun w => count_any letters k w h6 (by omega) hk8
 have c2 := fun w => count_any letters (k - 1) w h6 (by omega) (by omega)
 rw [show k - 1 + 1 = k by omega] at c2
 have hz : ∀ a b, (cnt letters (k + 1).toNat).1 = a → (cnt letters k.toNat).1 = b → sizeV kind letters k m = if kind = 1 then a - 1 + 1 else if kind = 2 ∨ kind = 3 then b + (a - 1) else if kind = 4 then b + 2 * (a - 1) else if kind = 5 then b + 3 * (a - 1) else if kind = 6 then a - 1 else (chn (a - 1) (m + 1).toNat).1 := by
  intro a b h h'; unfold sizeV; rw [h, h']
 generalize (cnt letters (k + 1).toNat).1 = a at *
 generalize (cnt letters k.toNat).1 = b at *
 have hz := hz a b rfl rfl
 obtain ⟨a1, a2, _, _⟩ := hb1
 obtain ⟨b1, b2, _, _⟩ := hb2
 have C1 := Kh c1; have C2 := Kh c2; have HZ := Kh hz; clear c1 c2 hz
 have hkind : kind = 1 ∨ kind = 2 ∨ kind = 3 ∨ kind = 4 ∨ kind = 5 ∨ kind = 6 ∨ kind = 7 := by omega
 rcases hkind with rfl | rfl | rfl | rfl | rfl | rfl | rfl
 case inr.inr.inr.inr.inr.inr =>
  obtain ⟨q, rfl⟩ : ∃ q : Nat, m = q := ⟨m.toNat, by omega⟩
  obtain ⟨ne, rfl⟩ : ∃ ne, a = ne + 1 := ⟨a - 1, by omega⟩
  have hmul1 : 0 ≤ (ne + 1) * (ne + 1) := Int.mul_nonneg (by omega) (by omega)
  have hmul2 : (ne + 1) * (ne + 1) ≤ 901 * 901 := Int.mul_le_mul (by omega) (by omega) (by omega) (by omega)
  go_enter Try.func26, Try.ntmps26
  go_wp2_with fail
  refine (C1.out _).mono ?_
  rintro e w' ⟨rfl, rfl⟩
  go_wp2_with fail
  refine (C2.out _).mono ?_
  rintro e w' ⟨rfl, rfl⟩
  go_wp2
  go_loop [11, 12, 56] (fun t p i => ∃ n : Nat, n ≤ q + 1 ∧ i = .int .i64 n ∧ t = .int .i64 (chn ne n).1 ∧ p = .int .i64 (chn ne n).2) (fun _ _ i => q + 1 - (intOf i).toNat)
  case atStart => exact ⟨0, Nat.zero_le _, rfl, rfl, rfl⟩
  case round =>
   obtain ⟨n, hn, rfl, rfl, rfl⟩ := hrel
   have hb := chn_bd ne (by omega) (by omega) n
   obtain ⟨t, ht⟩ : ∃ t, t = (chn ne n).1 := ⟨_, rfl⟩
   obtain ⟨p, hp⟩ : ∃ p, p = (chn ne n).2 := ⟨_, rfl⟩
   rw [← ht, ← hp] at hb ⊢
   have h1 : chn ne (n + 1) = (min (t + p) 900, min p 900 * ne) := by rw [ht, hp]; rfl
   have HT := Kh ht; have HP := Kh hp; have H1 := Kh h1
   obtain ⟨b1, b2, b3, b4⟩ := hb
   have hm1 : 0 ≤ min p 900 * ne := Int.mul_nonneg (by omega) (by omega)
   have hm2 : min p 900 * ne ≤ 900 * 900 := Int.mul_le_mul (by omega) (by omega) (by omega) (by omega)
   clear ht hp h1 hmul1 hmul2
   by_cases hlt : n < q + 1
   ·go_wp2_with fail
    refine (qE _ _).mono ?_
    rintro e w' ⟨rfl, rfl⟩
    go_wp2_with fail
    refine (qE _ _).mono ?_
    rintro e w' ⟨rfl, rfl⟩
    go_wp2
    go_round
    case rel => exact ⟨n + 1, by omega, by go_num, by rw [H1.out], by rw [H1.out]⟩
    case measure => simp [intOf]; omega
   ·go_wp2
    go_ret
    obtain rfl : n = q + 1 := by omega
    exact ⟨yL (by first | exact HT.out | (rw [HZ.out]; simp only [Int.reduceEq, if_false, or_self, show ne + 1 - 1 = ne by omega, show ((q : Int) + 1).toNat = q + 1 by omega]; exact HT.out)), rfl⟩
 all_goals
  go_enter Try.func26, Try.ntmps26
  go_wp2_with fail
  refine (C1.out _).mono ?_
  rintro e w' ⟨rfl, rfl⟩
  go_wp2_with fail
  refine (C2.out _).mono ?_
  rintro e w' ⟨rfl, rfl⟩
  go_wp2
  go_ret
  exact ⟨yL (by rw [HZ.out]; simp), rfl⟩
def mN (kind letters k m : Int) : Bool :=
 decide (1 ≤ kind ∧ kind ≤ 7 ∧ 1 ≤ letters ∧ letters ≤ 6 ∧ (if kind = 1 then 0 else 1) ≤ k ∧ k ≤ 8 ∧ (if kind = 7 then 0 ≤ m ∧ m ≤ 4 else m = 0))
set_option maxHeartbeats 400000 in
theorem validOrder_any (kind letters k m : Int) (w : World) :
  Calls Try.prog 25 #[.int .i64 kind, .int .i64 letters, .int .i64 k, .int .i64 m] w fun e w' => e = .returned (.bool (mN kind letters k m)) ∧ w = w' := by
 by_cases h1 : kind = 1
 ·subst h1
  go_enter Try.func25, Try.ntmps25
  go_wp2
  all_goals (go_ret; refine ⟨zW ?_, rfl⟩; unfold mN; first | (symm; rw [decide_eq_false_iff_not]; simp; omega) | (rw [eq_comm, Bool.eq_iff_iff]; simp; omega))
 ·by_cases h7 : kind = 7
  ·subst h7
   go_enter Try.func25, Try.ntmps25
   go_wp2
   all_goals (go_ret; refine ⟨zW ?_, rfl⟩; unfold mN; first | (symm; rw [decide_eq_false_iff_not]; simp; omega) | (rw [eq_comm, Bool.eq_iff_iff]; simp; omega))
  ·have h1' : (kind == 1) = false := by simpa using h1
   have h7' : (kind == 7) = false := by simpa using h7
   have H1 := Kh h1; have H7 := Kh h7; clear h1 h7
   go_enter Try.func25, Try.ntmps25
   go_wp2
   all_goals (go_ret; refine ⟨zW ?_, rfl⟩; unfold mN; simp only [if_neg H1.out, if_neg H7.out]; first | (symm; rw [decide_eq_false_iff_not]; omega) | (rw [eq_comm, Bool.eq_iff_iff]; simp; omega))
theorem Row.found {B : Nat} {w : World} {v : Value} {xs : List Value} (h : Row B w v xs) (hx : 0 < xs.length) : ∃ b off cap, v = .slice (some ⟨b, off, none⟩) xs.length cap ∧ xs.length ≤ cap ∧ cap ≤ maxLen ∧ wE w b off xs := by
 rcases h with ⟨a, c, rfl, rfl⟩ | ⟨b, off, cap, rfl, _, h1, h2, h3⟩
 ·simp at hx
 ·exact ⟨b, off, cap, rfl, h1, h2, h3⟩
set_option maxHeartbeats 400000 in
theorem jG (B1 B2 : Nat) (v1 v2 : Value) (ls : List (List Int)) (w : World) (h1 : Row B1 w v1 (strs ls)) (h2 : Row B2 w v2 (strs ls)) (hl : ls.length ≤ 9223372036854775807) :
  Calls Try.prog 34 #[v1, v2] w fun e w' => e = .returned (.bool true) ∧ ∃ m, w' = w.drewN m := by
 by_cases h0 : 0 < ls.length
 ·obtain ⟨b1, o1, c1, rfl, hc1, hm1, r1⟩ := h1.found (by simpa [strs] using h0)
  obtain ⟨b2, o2, c2, rfl, hc2, hm2, r2⟩ := h2.found (by simpa [strs] using h0)
  rw [show (strs ls).length = ls.length by simp [strs]] at *
  have hn : ((ls.length : Int) != ls.length) = false := by simp
  clear h1 h2
  go_enter Try.func34, Try.ntmps34
  go_wp2
  go_loopw [13] (fun i wr => ∃ k m : Nat, i = .int .i64 k ∧ k ≤ ls.length ∧ wr = w.drewN m) (fun i _ => ls.length - (intOf i).toNat)
  case atStart => exact ⟨0, 0, rfl, Nat.zero_le _, rfl⟩
  case round =>
   obtain ⟨k, m, rfl, hk, rfl⟩ := hrel
   by_cases hlt : k < ls.length
   ·have q1 := r1.map k hlt
    have q2 := r2.map k hlt
    have hlt' : (k : Int) < ls.length := by omega
    go_wp2
    go_quiet (fail)
    go_wp2
    go_roundw
    case rel => exact ⟨k + 1, _, by go_num, by omega, rfl⟩
    case measure => simp [intOf]; omega
   ·go_wp2
    go_ret
    exact ⟨rfl, m, rfl⟩
 ·have hz : ls = [] := List.eq_nil_of_length_eq_zero (by omega)
  subst hz
  obtain ⟨a1, c1, rfl⟩ := h1.shape
  obtain ⟨a2, c2, rfl⟩ := h2.shape
  rw [show (strs []).length = 0 by rfl] at *
  clear h1 h2
  go_enter Try.func34, Try.ntmps34
  go_wp2
  refine wp_loop_rounds 1 ?_
  rw [rounds_succ]
  go_wp2
  go_ret
  exact ⟨rfl, 0, rfl⟩
set_option maxHeartbeats 400000 in
theorem same33_any (B1 B2 : Nat) (v1 v2 : Value) (s1 s2 : List Value) (ps : List (List (List Int))) (w : World) (h1 : Row B1 w v1 s1) (h2 : Row B2 w v2 s2) (k1 : uF B1 9 strs w s1 ps) (k2 : uF B2 9 strs w s2 ps)
  (hl : ps.length ≤ 9223372036854775807) (hl2 : ∀ p ∈ ps, p.length ≤ 9223372036854775807) :
  Calls Try.prog 13 #[v1, v2] w fun e w' => e = .returned (.bool true) ∧ ∃ m, w' = w.drewN m := by
 have e1 := k1.1
 have e2 := k2.1
 by_cases h0 : 0 < ps.length
 ·obtain ⟨b1, o1, c1, rfl, hc1, hm1, r1⟩ := h1.found (by omega)
  obtain ⟨b2, o2, c2, rfl, hc2, hm2, r2⟩ := h2.found (by omega)
  rw [e1] at hc1 ⊢
  rw [e2] at hc2 ⊢
  have hn : ((ps.length : Int) != ps.length) = false := by simp
  have E1 := Kh e1; have E2 := Kh e2
  clear h1 h2 e1 e2
  go_enter Try.func13, Try.ntmps13
  go_wp2
  go_loopw [13] (fun i wr => ∃ k m : Nat, i = .int .i64 k ∧ k ≤ ps.length ∧ wr = w.drewN m) (fun i _ => ps.length - (intOf i).toNat)
  case atStart => exact ⟨0, 0, rfl, Nat.zero_le _, rfl⟩
  case round =>
   obtain ⟨k, m, rfl, hk, rfl⟩ := hrel
   by_cases hlt : k < ps.length
   ·have i1 : k < s1.length := by rw [E1.out]; exact hlt
    have i2 : k < s2.length := by rw [E2.out]; exact hlt
    have q1 := r1.2 k i1
    have q2 := r2.2 k i2
    have t1 := fun n => ((k1.2 k i1 hlt).row.of_heap (w' := w.drewN n) rfl)
    have t2 := fun n => ((k2.2 k i2 hlt).row.of_heap (w' := w.drewN n) rfl)
    obtain ⟨x1, y1, z1⟩ := (k1.2 k i1 hlt).row.shape
    obtain ⟨x2, y2, z2⟩ := (k2.2 k i2 hlt).row.shape
    have hlt' : (k : Int) < ps.length := by omega
    have hpl := hl2 ps[k] (List.getElem_mem hlt)
    rw [z1] at q1 t1
    rw [z2] at q2 t2
    have T1 := Kh t1; have T2 := Kh t2
    clear t1 t2 z1 z2
    go_wp2
    go_quiet ((go_at_call 34; first | exact Calls.quiet_of (jG _ _ _ _ _ _ (T1.out _) (T2.out _) hpl) | exact quiet_add (jG _ _ _ _ _ _ (T1.out _) (T2.out _) hpl)))
    go_wp2
    go_roundw
    case rel => exact ⟨k + 1, _, by go_num, by omega, rfl⟩
    case measure => simp [intOf]; omega
   ·go_wp2
    go_ret
    exact ⟨rfl, m, rfl⟩
 ·have hz : ps = [] := List.eq_nil_of_length_eq_zero (by omega)
  subst hz
  have z1 : s1 = [] := List.eq_nil_of_length_eq_zero e1
  have z2 : s2 = [] := List.eq_nil_of_length_eq_zero e2
  subst z1 z2
  obtain ⟨a1, c1, rfl⟩ := h1.shape
  obtain ⟨a2, c2, rfl⟩ := h2.shape
  rw [show ([] : List Value).length = 0 by rfl] at *
  clear h1 h2 k1 k2 e1 e2
  go_enter Try.func13, Try.ntmps13
  go_wp2
  refine wp_loop_rounds 1 ?_
  rw [rounds_succ]
  go_wp2
  go_ret
  exact ⟨rfl, 0, rfl⟩
def nV : List (List (List Int)) := [[[], [97], []], [[], [97], [97], []]]
theorem famKnown_eq : ((upTo 1 (2 + 1)).drop 1).map uU = nV := by decide
def FamKnown (w : World) (e : Ending) (w' : World) : Prop :=
 ∃ (sa : Option Addr) (sc : Nat) (svs : List Value), e = .returned (.tuple #[.slice sa 2 sc, .int .i64 0]) ∧ RowT w'.heap.size 36 w' (.slice sa 2 sc) svs ∧ uF w'.heap.size 9 strs w' svs nV ∧ w.grownBy w' none
set_option maxHeartbeats 400000 in
theorem family_known (w : World) : Calls Try.prog 11 #[.int .i64 6, .int .i64 1, .int .i64 2, .int .i64 0] w (FamKnown w) := by
 have c1 := fun w => validOrder_any 6 1 2 0 w
 have c2 := fun w => size_any 6 1 2 0 w (by omega) (by omega) (by omega) (by omega) (by omega) (by omega) (by omega)
 have c3 := fun w => pieces_any 1 2 w (by omega) (by omega) (by omega) (by omega)
 rw [show mN 6 1 2 0 = true by decide] at c1
 rw [show sizeV 6 1 2 0 = 2 by decide] at c2
 rw [famKnown_eq] at c3
 have C1 := Kh c1; have C2 := Kh c2; have C3 := Kh c3; clear c1 c2 c3
 go_enter Try.func11, Try.ntmps11
 go_wp2_with fail
 refine (C1.out _).mono ?_
 rintro e w1 ⟨rfl, rfl⟩
 go_wp2_with fail
 refine (C2.out _).mono ?_
 rintro e w1 ⟨rfl, rfl⟩
 go_wp2_with fail
 refine (C3.out _).mono ?_
 rintro e w1 ⟨sa, sc, svs, rfl, h1, h2, h3⟩
 go_wp2
 go_ret2
 exact ⟨sa, sc, svs, rfl, h1, h2, h3⟩
theorem match_yes : yM [⟨#[97]⟩, ⟨#[98]⟩, ⟨#[]⟩] ⟨#[97, 97, 98]⟩ = true := by decide +kernel
theorem match_no : yM [⟨#[97, 98]⟩, ⟨#[98, 97]⟩] ⟨#[97, 98, 97]⟩ = false := by decide +kernel
def vO (w : World) : World :=
  ((w.alloc (.cells #[.string ⟨#[]⟩, .string ⟨#[97]⟩, .string ⟨#[]⟩] 9)).alloc (.cells #[.string ⟨#[]⟩, .string ⟨#[97]⟩, .string ⟨#[97]⟩, .string ⟨#[]⟩] 9)).alloc
    (.cells #[.slice (some ⟨w.heap.size, 0, none⟩) 3 3, .slice (some ⟨w.heap.size + 1, 0, none⟩) 4 4] 36)
theorem RowT.litK {B : Nat} {e : TypeId} {w : World} {b : Nat} {cs : Array Value} {m : Nat × Nat} {n : Nat} (h : w.heap[b]? = some (.cells cs e m)) (hb : b < B) (hn : cs.size = n) (hm : n ≤ maxLen) : RowT B e w (.slice (some ⟨b, 0, none⟩) n n) cs.toList :=
 .inr ⟨b, 0, n, cs, m, by rw [Array.length_toList, hn], hb, by rw [Array.length_toList, hn]; exact Nat.le_refl _, hm, h, fun i hi => by rw [Nat.zero_add, ← Array.getElem?_toList, List.getElem?_eq_getElem hi]⟩
theorem lit_known (w : World) :
  Row (vO w).heap.size (vO w) (.slice (some ⟨w.heap.size + 1 + 1, 0, none⟩) 2 2) [.slice (some ⟨w.heap.size, 0, none⟩) 3 3, .slice (some ⟨w.heap.size + 1, 0, none⟩) 4 4] ∧
  uF (vO w).heap.size 9 strs (vO w) [.slice (some ⟨w.heap.size, 0, none⟩) 3 3, .slice (some ⟨w.heap.size + 1, 0, none⟩) 4 4] nV := by
 have hs : (vO w).heap.size = w.heap.size + 3 := by simp [vO]
 have b0 : (vO w).heap[w.heap.size]? = some (.cells #[.string ⟨#[]⟩, .string ⟨#[97]⟩, .string ⟨#[]⟩] 9 (0, 0)) :=
  zA (heap_alloc_new w _) (yV (World.grownBy_alloc _ _ none) _) (by simp)
 have b1 : (vO w).heap[w.heap.size + 1]? = some (.cells #[.string ⟨#[]⟩, .string ⟨#[97]⟩, .string ⟨#[97]⟩, .string ⟨#[]⟩] 9 (0, 0)) :=
  zA (by simpa using heap_alloc_new (w.alloc (.cells #[.string ⟨#[]⟩, .string ⟨#[97]⟩, .string ⟨#[]⟩] 9)) (.cells #[.string ⟨#[]⟩, .string ⟨#[97]⟩, .string ⟨#[97]⟩, .string ⟨#[]⟩] 9)) (World.grownBy_alloc _ _ none) (by simp)
 have b2 : (vO w).heap[w.heap.size + 1 + 1]? = some (.cells #[.slice (some ⟨w.heap.size, 0, none⟩) 3 3, .slice (some ⟨w.heap.size + 1, 0, none⟩) 4 4] 36 (0, 0)) := by
  have := heap_alloc_new ((w.alloc (.cells #[.string ⟨#[]⟩, .string ⟨#[97]⟩, .string ⟨#[]⟩] 9)).alloc (.cells #[.string ⟨#[]⟩, .string ⟨#[97]⟩, .string ⟨#[97]⟩, .string ⟨#[]⟩] 9)) (.cells #[.slice (some ⟨w.heap.size, 0, none⟩) 3 3, .slice (some ⟨w.heap.size + 1, 0, none⟩) 4 4] 36)
  simpa [vO] using this
 refine ⟨(RowT.litK (n := 2) b2 (by omega) rfl (by unfold maxLen; omega)).row, rfl, fun i h h' => ?_⟩
 match i, h with
 | 0, _ => exact RowT.litK (n := 3) b0 (by omega) rfl (by unfold maxLen; omega)
 | 1, _ => exact RowT.litK (n := 4) b1 (by omega) rfl (by unfold maxLen; omega)
theorem small3 (a b c : ByteArray) (ha : a.size ≤ 140737488351232) (hb : b.size ≤ 140737488351232) (hc : c.size ≤ 140737488351232) : ∀ i (h : i < [a, b, c].length), [a, b, c][i].size ≤ 140737488351232
 | 0, _ => ha
 | 1, _ => hb
 | 2, _ => hc
theorem small2 (a b : ByteArray) (ha : a.size ≤ 140737488351232) (hb : b.size ≤ 140737488351232) : ∀ i (h : i < [a, b].length), [a, b][i].size ≤ 140737488351232
 | 0, _ => ha
 | 1, _ => hb
set_option maxRecDepth 100000 in
set_option maxHeartbeats 400000 in
theorem known_any (w : World) (hL : SomeLen w) : Calls Try.prog 14 #[] w fun e w' => e = .returned (.bool true) ∧ w.grownBy w' none := by
 go_enter Try.func14, Try.ntmps14
 go_wp2_with fail
 refine (family_known _).mono ?_
 rintro e w1 ⟨sa, sc, svs, rfl, hT, hS, hg1⟩
 have hL1 := hL.kept hg1 (by simp)
 go_wp2_with fail
 refine (match_any w1.heap.size 0 3 [⟨#[97]⟩, ⟨#[98]⟩, ⟨#[]⟩] ⟨#[97, 97, 98]⟩ _ (by decide) (by unfold maxLen; omega) (Arr.new w1 _ _).row (small3 _ _ _ (by decide) (by decide) (by decide)) (by decide) (hL1.kept (World.grownBy_alloc _ _ none) (by simp))).mono ?_
 rw [match_yes]
 rintro e w2 ⟨rfl, hg2⟩
 have hg2' := zE (World.grownBy_alloc w1 (.cells #[.string ⟨#[97]⟩, .string ⟨#[98]⟩, .string ⟨#[]⟩] 9) none) hg2
 have hL2 := hL1.kept hg2' (by simp)
 go_wp2_with fail
 refine (match_any w2.heap.size 0 2 [⟨#[97, 98]⟩, ⟨#[98, 97]⟩] ⟨#[97, 98, 97]⟩ _ (by decide) (by unfold maxLen; omega) (Arr.new w2 _ _).row (small2 _ _ (by decide) (by decide)) (by decide) (hL2.kept (World.grownBy_alloc _ _ none) (by simp))).mono ?_
 rw [match_no]
 rintro e w3 ⟨rfl, hg3⟩
 have hg3' := zE (World.grownBy_alloc w2 (.cells #[.string ⟨#[97, 98]⟩, .string ⟨#[98, 97]⟩] 9) none) hg3
 have hg13 := zE hg2' hg3'
 have hT3 := hT.kept hg13 (by simp)
 have hS3 := hS.kept hg13 (by simp)
 have hgw := zE hg1 hg13
 have HS3 := Kh hS3
 clear hT hS hg2 hg2' hg3 hg3' hg13 hS3
 go_wp2_with fail
 obtain ⟨r2, k2⟩ := lit_known w3
 have g3 : w3.grownBy (vO w3) none := yV (yV (World.grownBy_alloc w3 _ _) _) _
 have gw3 := zE hgw g3
 have hsz := (zE (row := none) (World.grownBy_alloc w3 (.cells #[] 0) none) (zO _ _)).size
 refine (same33_any _ _ _ _ svs _ nV _ (hT3.kept g3 (by simp)).row r2 (HS3.out.kept g3 (by simp)) k2 (by decide) (by decide)).mono ?_
 rintro e w4 ⟨rfl, m, rfl⟩
 go_wp2
 go_ret
 exact ⟨rfl, yZ gw3 rfl rfl rfl rfl⟩
theorem tape_ne {B tb b off : Nat} {w : World} {ps : List ByteArray} (h : wW B w tb) (hr : wE w b off (txtV ps)) (h0 : 0 < ps.length) : b ≠ tb := by
 intro e
 subst e
 obtain ⟨sl, zs, n, h1, h2, _⟩ := h
 obtain ⟨a, c, rfl⟩ := h2.shape
 have hc := xT hr 0 h0
 rw [Nat.add_zero, cell_of_row w b off _ _ _ h1] at hc
 match off, hc with
 | 0, hc => simp at hc
 | 1, hc => simp at hc
 | _ + 2, hc => simp at hc
set_option maxRecDepth 100000 in
set_option maxHeartbeats 1000000 in
theorem made_walk (w : World) (v0 : Value) (z0 : List Int) (h0 : Row w.heap.size w v0 (z0.map (Value.int .i64))) (hL : SomeLen w) :
  Calls Try.prog 8 #[v0] w fun e w' => e = .returned (.bool true) ∧ w.grownBy w' none := by
 have HL := Kh hL
 clear hL
 go_enter Try.func8, Try.ntmps8
 go_wp2_with fail
 refine (new_any w.heap.size w v0 z0 h0 (Nat.le_refl _)).mono ?_
 rintro e w1 ⟨rfl, hT1, hg1⟩
 go_wp2_with fail
 refine (nT w.heap.size w.heap.size w1 3 (by omega) hT1).mono ?_
 rintro e w2 ⟨r, rfl, hr0, hr2, hT2, hg2⟩
 replace hr2 := hr2 (by omega)
 have gw2 : w.grownBy w2 none := zB hg1 hg2 (by simp)
 obtain ⟨k, hk⟩ : ∃ k : Nat, 1 + r = (k : Int) := ⟨(1 + r).toNat, by omega⟩
 have hk1 : 1 ≤ k := by omega
 have hk2 : k ≤ 3 := by omega
 have hkl1 : (1 : Int) ≤ k := by omega
 have hkl6 : (k : Int) ≤ 6 := by omega
 clear hT1 hg1
 go_wp2_with fail
 refine (pattern_any w.heap.size w.heap.size w2 (k : Int) hkl1 hkl6 hT2).mono ?_
 rintro e w3 ⟨pv, bs, rfl, hrow, hgood, hT3, hg3⟩
 have gw3 : w.grownBy w3 none := zB gw2 hg3 (by simp)
 obtain ⟨ps, hps⟩ : ∃ ps, ps = bs.map strOfNums := ⟨_, rfl⟩
 have hstr : strs bs = txtV ps := by rw [hps]; simp [strs, txtV]
 have hpv : zT ps (k : Int) = 0 := by rw [hps]; exact patValidate_ofL hgood hkl1 hkl6
 obtain ⟨_, _, hp0, _, hpt, _, _⟩ := jL hpv
 have ht14 : vF ps ≤ 14 := by
  have h1 := kG (letters := (k : Int)) (bs := bs) fun b hb => by
   obtain ⟨i, hi, rfl⟩ := List.getElem_of_mem hb
   exact (hgood.2.2 i hi).1
  have h2 := hgood.1
  rw [hps]; omega
 have hsz : ∀ i (hi : i < ps.length), ps[i].size ≤ maxLen := fun i hi => by have := jC hi; unfold maxLen; omega
 rw [hstr] at hrow
 obtain ⟨b, off, cap, rfl, hbB, hbc, hbm, hra⟩ := hrow.some_ (by rw [zR]; exact hp0)
 rw [zR] at hbc ⊢
 have hbt := tape_ne hT3 hra hp0
 obtain ⟨bl, hbl⟩ : ∃ bl, bl = ps.length := ⟨_, rfl⟩
 rw [← hbl] at hbc ⊢
 obtain ⟨P, hP⟩ : ∃ P, P = w3.heap.size := ⟨_, rfl⟩
 obtain ⟨wp, hwp⟩ : ∃ wp, wp = w3.alloc (.cells #[.slice (some ⟨b, off, none⟩) bl cap] 36) := ⟨_, rfl⟩
 have hgp := World.grownBy_alloc w3 (.cells #[.slice (some ⟨b, off, none⟩) bl cap] 36) none
 have hbp := heap_alloc_new w3 (.cells #[.slice (some ⟨b, off, none⟩) bl cap] 36)
 rw [← hwp] at hgp hbp
 rw [← hP] at hbp
 obtain ⟨tb, htb⟩ : ∃ tb, tb = w.heap.size := ⟨_, rfl⟩
 have hTp := hT3.kept hgp (by simp)
 have hPt : P ≠ tb := by have := hT3.lt; omega
 have hrap := hra.kept hgp (by simp)
 have HGWP := Kh (zB gw3 hgp (by simp))
 have HLP := Kh (HL.out.kept HGWP.out (by simp))
 have hMt : 0 ≠ tb := by have := HL.out.1; omega
 rw [← htb] at hTp hbt ⊢
 have HTB := Kh htb
 have HC : Hid (∀ W : World, wp.grownBy W (some tb) → W.cell? ⟨P, 0, none⟩ = some (.slice (some ⟨b, off, none⟩) bl cap)) := Kh (fun W hW => by simpa using zK (zA hbp hW (fun e => hPt (Option.some.inj e).symm)) 0 (by simp))
 have HW : Hid (∀ W : World, wp.grownBy W none → Calls Try.prog 18 #[.pointer (some ⟨tb, 0, none⟩), .int .i64 (k : Int), .int .i64 12] W fun e w' => ∃ s : ByteArray, e = .returned (.string s) ∧ s.size ≤ 12 ∧ wp.grownBy w' (some tb)) := Kh (fun W hW => (kF tb tb W (k : Int) 12 hkl1 hkl6 (by omega) (by omega) ((by rw [htb] at hTp ⊢; exact hTp.kept hW (by simp)))).mono (by
  rintro e w' ⟨l, rfl, hl, _, _, hg⟩
  exact ⟨_, rfl, by rw [strOfNums_size]; omega, zE (yY hW) hg⟩))
 have HALL : Hid (∀ (W : World) (s : ByteArray), wp.grownBy W (some tb) → s.size ≤ 12 → Calls Try.prog 22 #[.agg #[.slice (some ⟨b, off, none⟩) bl cap], .int .i64 (k : Int), .string s] W fun e w' => e = .returned (.bool true) ∧ wp.grownBy w' (some tb)) := Kh (fun W s hW hs => by
  have hr : Row (b + 1) W (.slice (some ⟨b, off, none⟩) bl cap) (txtV ps) := .inr ⟨b, off, cap, by rw [zR, hbl], by omega, by rw [zR, ← hbl]; exact hbc, hbm, hrap.kept hW (fun e => hbt (Option.some.inj e).symm)⟩
  have hbW : b + 1 ≤ W.heap.size := by have := hW.size; have := hgp.size; omega
  exact (all_any (b + 1) W _ ps (k : Int) s hr hbW hsz (fun _ => ht14) (by unfold maxLen; omega) (HLP.out.kept hW (fun e => hMt (Option.some.inj e).symm))).mono fun e w' ⟨he, hg⟩ => ⟨he, zE hW (yY hg)⟩)
 have HK : Hid (∀ W : World, wp.grownBy W (some tb) → Calls Try.prog 14 #[] W fun e w' => e = .returned (.bool true) ∧ wp.grownBy w' (some tb)) := Kh (fun W hW =>
  (known_any W (HLP.out.kept hW (fun e => hMt (Option.some.inj e).symm))).mono fun e w' ⟨he, hg⟩ => ⟨he, zE hW (yY hg)⟩)
 have HWP := Kh hwp; have HPE := Kh hP
 have cP := HC.out wp (zO _ _)
 have GA : wp.grownBy wp.drew none := zX _ _
 have GA2 : wp.grownBy wp.drew (some tb) := zX _ _
 clear hT2 hT3 hg2 hg3 hrow hgood gw2 gw3 hk hr0 hr2 hra hbm hps hstr hpv hpt ht14 hsz hbl hP hwp hgp hbp hTp hrap htb
 go_upto_region 4 with fail
 rw [← HWP.out, ← HPE.out]
 go_region_held3 (fun w' => w'.cell? ⟨P, 0, none⟩ = some (.slice (some ⟨b, off, none⟩) bl cap))
  (first | go_keep | exact HC.out _ (by assumption) | fail)
  (first | (go_at_call 18; (with_reducible refine (HW.out _ GA).mono ?_); rintro e x1 ⟨s1, rfl, hs1, hX1⟩) | (go_at_call 22; (with_reducible refine (HALL.out _ _ (by assumption) (by assumption)).mono ?_); rintro e x2 ⟨rfl, hX2⟩) | (go_at_call 14; (with_reducible refine (HK.out _ (by assumption)).mono ?_); rintro e x3 ⟨rfl, hX3⟩) | fail)
 all_goals
  go_wp2
  go_ret
  exact ⟨rfl, zB HGWP.out (by assumption) (fun y e => by have := Option.some.inj e; have := HTB.out; omega)⟩
theorem someLen_of_shaped {w : World} (h : w.ShapedOpen Try.prog) : SomeLen w := by
 obtain ⟨m, hm⟩ := Go.Proofs.cell_of_shapedOpen_int (P := Try.prog) (w := w) (g := 0) (t := 3) (zero := #[.int .i64 0]) (k := .i64) h (of_decide_eq_true (by kernel_rfl)) (by kernel_rfl) rfl (by kernel_rfl) (by kernel_rfl) Try.underlying3
 exact ⟨World.block_lt_of_cell? w _ hm, m, hm⟩
end Go.Proofs.Ytgbfaggnnfoamaa
