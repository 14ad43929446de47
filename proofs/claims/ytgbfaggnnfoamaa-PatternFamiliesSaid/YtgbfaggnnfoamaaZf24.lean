/- Part 24 of the proof: RFamE, RFamB. -/
import Derived.Test.YtgbfaggnnfoamaaZf23
import Derived.Lib.OthersKept
set_option linter.unusedVariables false
set_option linter.unusedSimpArgs false
namespace Go.Proofs.Ytgbfaggnnfoamaa
open Go.RowKit
theorem zZ (w : World) (n : Int) :
  Calls Try.prog 30 #[.int .i64 n] w fun e w' => e = .returned (.bool (decide (1 ≤ n ∧ n ≤ 6))) ∧ w = w' := by
 by_cases h : 1 ≤ n
 ·go_enter Try.func30, Try.ntmps30
  go_wp2
  go_ret
  exact ⟨zV (by simp [h]), rfl⟩
 ·go_enter Try.func30, Try.ntmps30
  go_wp2
  go_ret
  exact ⟨zV (by simp; omega), rfl⟩
set_option maxRecDepth 100000 in
set_option maxHeartbeats 2000000 in
theorem rfam_err (kind letters k m : Int) (w : World) (ho : zU kind letters k m = false) :
  Calls Try.prog 12 #[.int .i64 kind, .int .i64 letters, .int .i64 k, .int .i64 m] w (zN w 1 []) := by
 have HML := Kh (zZ w letters)
 simp only [zU, decide_eq_false_iff_not] at ho
 have HO := Kh ho
 clear ho
 by_cases a1 : kind < 1
 ·by_cases k1 : kind = 1
  ·omega
  have k1' : (kind == 1) = false := by simpa using k1
  clear k1
  go_enter Try.func12, Try.ntmps12
  go_wp2
  refine bodyPost_ret (v := .tuple #[.slice none 0 0, .int .i64 1]) (by simp [results, Try.results12, go_sem]) rfl ?_
  exact zN.nil (zF _ _)
 by_cases a2 : 7 < kind
 ·have k1' : (kind == 1) = false := by simp; omega
  go_enter Try.func12, Try.ntmps12
  go_wp2
  refine bodyPost_ret (v := .tuple #[.slice none 0 0, .int .i64 1]) (by simp [results, Try.results12, go_sem]) rfl ?_
  exact zN.nil (zF _ _)
 by_cases a3 : 1 ≤ letters ∧ letters ≤ 6
 rotate_left
 ·rw [decide_eq_false a3] at HML
  clear a3
  by_cases k1 : kind = 1
  ·subst k1
   go_enter Try.func12, Try.ntmps12
   go_wp2_with fail
   refine HML.out.mono ?_
   rintro e w ⟨rfl, rfl⟩
   go_wp2
   refine bodyPost_ret (v := .tuple #[.slice none 0 0, .int .i64 1]) (by simp [results, Try.results12, go_sem]) rfl ?_
   exact zN.nil (zF _ _)
  ·have k1' : (kind == 1) = false := by simpa using k1
   clear k1
   go_enter Try.func12, Try.ntmps12
   go_wp2_with fail
   refine HML.out.mono ?_
   rintro e w ⟨rfl, rfl⟩
   go_wp2
   refine bodyPost_ret (v := .tuple #[.slice none 0 0, .int .i64 1]) (by simp [results, Try.results12, go_sem]) rfl ?_
   exact zN.nil (zF _ _)
 rw [decide_eq_true a3] at HML
 by_cases k1 : kind = 1
 ·subst k1
  by_cases b1 : k < 0
  ·go_enter Try.func12, Try.ntmps12
   go_wp2_with fail
   refine HML.out.mono ?_
   rintro e w ⟨rfl, rfl⟩
   go_wp2
   refine bodyPost_ret (v := .tuple #[.slice none 0 0, .int .i64 1]) (by simp [results, Try.results12, go_sem]) rfl ?_
   exact zN.nil (zF _ _)
  by_cases b2 : 8 < k
  ·go_enter Try.func12, Try.ntmps12
   go_wp2_with fail
   refine HML.out.mono ?_
   rintro e w ⟨rfl, rfl⟩
   go_wp2
   refine bodyPost_ret (v := .tuple #[.slice none 0 0, .int .i64 1]) (by simp [results, Try.results12, go_sem]) rfl ?_
   exact zN.nil (zF _ _)
  have b3 : (m != 0) = true := by rw [bne_iff_ne]; intro e; exact HO.out (by simp; omega)
  go_enter Try.func12, Try.ntmps12
  go_wp2_with fail
  refine HML.out.mono ?_
  rintro e w ⟨rfl, rfl⟩
  go_wp2
  refine bodyPost_ret (v := .tuple #[.slice none 0 0, .int .i64 1]) (by simp [results, Try.results12, go_sem]) rfl ?_
  exact zN.nil (zF _ _)
 have k1' : (kind == 1) = false := by simpa using k1
 have H1 := Kh k1
 clear k1
 by_cases b1 : k < 1
 ·go_enter Try.func12, Try.ntmps12
  go_wp2_with fail
  refine HML.out.mono ?_
  rintro e w ⟨rfl, rfl⟩
  go_wp2
  refine bodyPost_ret (v := .tuple #[.slice none 0 0, .int .i64 1]) (by simp [results, Try.results12, go_sem]) rfl ?_
  exact zN.nil (zF _ _)
 by_cases b2 : 8 < k
 ·go_enter Try.func12, Try.ntmps12
  go_wp2_with fail
  refine HML.out.mono ?_
  rintro e w ⟨rfl, rfl⟩
  go_wp2
  refine bodyPost_ret (v := .tuple #[.slice none 0 0, .int .i64 1]) (by simp [results, Try.results12, go_sem]) rfl ?_
  exact zN.nil (zF _ _)
 by_cases k7 : kind = 7
 ·subst k7
  by_cases b3 : m < 0
  ·go_enter Try.func12, Try.ntmps12
   go_wp2_with fail
   refine HML.out.mono ?_
   rintro e w ⟨rfl, rfl⟩
   go_wp2
   refine bodyPost_ret (v := .tuple #[.slice none 0 0, .int .i64 1]) (by simp [results, Try.results12, go_sem]) rfl ?_
   exact zN.nil (zF _ _)
  by_cases b4 : 4 < m
  ·go_enter Try.func12, Try.ntmps12
   go_wp2_with fail
   refine HML.out.mono ?_
   rintro e w ⟨rfl, rfl⟩
   go_wp2
   refine bodyPost_ret (v := .tuple #[.slice none 0 0, .int .i64 1]) (by simp [results, Try.results12, go_sem]) rfl ?_
   exact zN.nil (zF _ _)
  exact absurd (by rw [if_neg H1.out, if_pos rfl]; omega) HO.out
 ·have k7' : (kind == 7) = false := by simpa using k7
  have k7'' : (kind != 7) = true := by rw [bne_iff_ne]; exact k7
  have b3 : (m != 0) = true := by rw [bne_iff_ne]; intro e; exact HO.out (by rw [if_neg H1.out, if_neg k7]; omega)
  clear k7
  go_enter Try.func12, Try.ntmps12
  go_wp2_with fail
  refine HML.out.mono ?_
  rintro e w ⟨rfl, rfl⟩
  go_wp2
  refine bodyPost_ret (v := .tuple #[.slice none 0 0, .int .i64 1]) (by simp [results, Try.results12, go_sem]) rfl ?_
  exact zN.nil (zF _ _)
theorem yB (L i : Nat) : (upTo L (i + 2)).length = (upTo L (i + 1)).length + L ^ i * L := by
 rw [zM L (i + 1), List.length_append, zT, Nat.pow_succ]
theorem wP {kind : Int} {L K : Nat} (M : Nat) : (zQ L K).length ≤ (famP kind L K M).length + 1 := by
 unfold famP
 simp only
 split
 ·rw [List.length_map]; omega
 split
 ·simp only [List.length_append, List.length_map, List.length_drop]; omega
 split
 ·simp only [List.length_append, List.length_map, List.length_drop]; omega
 split
 ·simp only [List.length_append, List.length_map, List.length_drop]; omega
 split
 ·simp only [List.length_append, List.length_map, List.length_drop]; omega
 split
 ·simp only [List.length_append, List.length_map, List.length_drop]; omega
 ·rw [vO, List.length_append, List.length_map]; omega
theorem yC {kind : Int} {L K M : Nat} (ho : zU kind L K M = true) (h : (kind = 6 ∧ 8 < (K : Int) + 2) ∨ 300 < sizeV kind L K M) : famE kind L K M = 3 ∧ famL kind L K M = [] := by
 have e1 : famE kind L K M = 3 := by rw [famE, if_neg (by rw [ho]; simp), if_pos (h.imp id (fun hs => by simpa using hs))]
 exact ⟨e1, by rw [famL, e1]; rfl⟩
theorem yW {kind : Int} {L K M : Nat} (ho : zU kind L K M = true) (h6 : ¬ (kind = 6 ∧ 8 < (K : Int) + 2)) (h : ¬ 300 < sizeV kind L K M) : famE kind L K M = 0 ∧ famL kind L K M = famP kind L K M := by
 have e1 : famE kind L K M = 0 := by
  rw [famE, if_neg (by rw [ho]; simp), if_neg]
  rintro (h1 | h1)
  ·exact h6 h1
  ·exact h (by simpa using h1)
 exact ⟨e1, by rw [famL, e1]; simp⟩
theorem vQ {α : Type} {c : Prop} [Decidable c] (x : α) : (if c then [x] else []).length ≤ 1 := by split <;> simp
theorem genU_len (kind : Int) (k : Nat) (u : List Int) : (genU kind k u).length ≤ 5 := by
 unfold genU
 rw [List.length_append]
 have h1 := vQ (c := kind = 1 ∨ kind = 7 ∨ (kind ≠ 6 ∧ u.length < k)) (oneB u)
 by_cases hu : u = []
 ·rw [if_pos hu, List.length_nil]; omega
 ·rw [if_neg hu]
  rw [List.length_append, List.length_append, List.length_append]
  have h2 := vQ (c := kind = 2 ∨ kind = 4 ∨ kind = 5) (preB u)
  have h3 := vQ (c := kind = 3 ∨ kind = 4 ∨ kind = 5) (sufB u)
  have h4 := vQ (c := kind = 5) (facB u)
  have h5 := vQ (c := kind = 6) (zY u)
  omega
theorem xP (kind : Int) (k : Nat) : ∀ W : List (List Int), (genL kind k W).length ≤ 5 * W.length
 | [] => by simp [genL]
 | u :: W => by
  have := xP kind k W
  have := genU_len kind k u
  simp only [genL, List.flatMap_cons, List.length_append, List.length_cons] at *
  omega
theorem grown_iterAt (w : World) (k : Nat) (s : ByteArray) (pos : Nat) : w.grownBy (w.iterAt k s pos) (some k) :=
 ⟨rfl, rfl, rfl, by rw [Lib.iterAt_size]; exact Nat.le_refl _, fun i _ hne => Lib.iterAt_other w k i s pos (fun e => hne (by rw [e]))⟩
theorem RowsT.cat {α : Type} {B : Nat} {e : TypeId} {f : α → List Value} {w : World} {svs svs2 : List Value} {ps ps2 : List α} (h : RowsT B e f w svs ps) (h2 : RowsT B e f w svs2 ps2) : RowsT B e f w (svs ++ svs2) (ps ++ ps2) := by
 refine ⟨by simp [h.1, h2.1], fun i a b => ?_⟩
 have hl := h.1
 by_cases hi : i < svs.length
 ·rw [List.getElem_append_left hi, List.getElem_append_left (by omega)]; exact h.2 i hi _
 ·rw [List.getElem_append_right (by omega), List.getElem_append_right (by omega)]
  have := h2.2 (i - svs.length) (by rw [List.length_append] at a; omega) (by rw [List.length_append] at b; omega)
  simp only [hl] at this ⊢
  exact this
theorem RowsT.one {w : World} {B : Nat} {e : TypeId} {svs : List Value} {ps : List (List (List Int))} (h : RowsT B e strs w svs ps) : ∀ u ∈ svs, u.oneCell' = true := by
 intro u hu
 obtain ⟨i, hi, rfl⟩ := List.mem_iff_getElem.1 hu
 have hl := h.1
 obtain ⟨a, c, e⟩ := (h.2 i hi (by omega)).row.shape
 rw [e]; rfl
theorem LUp.cat {e base n n2 : Nat} {w w1 w2 : World} {v v2 : Value} {svs svs2 : List Value} {ps ps2 : List (List (List Int))} (h : LUp e base w v n svs ps) (hg1 : w.grownBy w1 none) (hr : RowsT w1.heap.size 9 strs w1 svs2 ps2)
  (hown : w2.ownsRow base e 1 v2 n2 (svs ++ svs2)) (hg : w1.grownBy w2 v.ownBlock) : LUp e base w2 v2 n2 (svs ++ svs2) (ps ++ ps2) ∧ w.grownBy w2 v.ownBlock := by
 have h1 := h.kept hg1 (by simp)
 have hot := zH h1.own h.ne
 exact ⟨⟨hown, ((h1.rows.cat hr).kept hg (fun k e => .inr (hot k e))).mono hg.size, h.ne⟩, zE (grownBy_weak hg1) hg⟩
theorem yM {L K r : Nat} (h : r < (zQ L K).length) : ((zQ L K)[r] = [] ↔ r = 0) := by
 obtain ⟨t, e, ht⟩ := vC L K
 have e' : zQ L K = [] :: t := e
 constructor
 ·intro h0
  rcases r with _ | r
  ·rfl
  ·exfalso
   simp only [e', List.getElem_cons_succ] at h0
   exact ht _ (List.getElem_mem _) h0
 ·rintro rfl
  simp only [e', List.getElem_cons_zero]
theorem yY {L K : Nat} (h6 : K ≤ 8) {u : List Int} (hu : u ∈ zQ L K) : u.length ≤ 8 := yA (n := K + 1) (by omega) hu
theorem okB {letters : Nat} (h : letters ≤ 6) {n : Nat} {u : List Int} (hu : u ∈ upTo letters n) : okW u := by
 simp only [upTo, List.mem_flatMap, List.mem_range] at hu
 obtain ⟨m, _, hu⟩ := hu
 intro x hx
 have := (yU hu).2 x hx
 unfold okNum at *
 omega
end Go.Proofs.Ytgbfaggnnfoamaa
