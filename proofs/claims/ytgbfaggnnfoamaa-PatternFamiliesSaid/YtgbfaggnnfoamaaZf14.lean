/- Part 14 of the proof: FamilyP. -/
import Derived.Test.YtgbfaggnnfoamaaZf13
set_option linter.unusedVariables false
set_option linter.unusedSimpArgs false
namespace Go.Proofs.Ytgbfaggnnfoamaa
open Go.RowKit
def famE (kind letters k m : Int) : Int := if zU kind letters k m = false then 1 else if kind = 6 ∧ 8 < k + 2 ∨ 300 < sizeV kind letters.toNat k m then 3 else 0
def famL (kind letters k m : Int) : List (List (List Int)) := if famE kind letters k m = 0 then famP kind letters.toNat k.toNat m.toNat else []
def zN (w : World) (er : Int) (ps : List (List (List Int))) (e : Ending) (w' : World) : Prop :=
 ∃ (sa : Option Addr) (sc : Nat) (svs : List Value), e = .returned (.tuple #[.slice sa ps.length sc, .int .i64 er]) ∧ RowT w'.heap.size 36 w' (.slice sa ps.length sc) svs ∧ RowsT w'.heap.size 9 strs w' svs ps ∧ w.grownBy w' none
theorem zN.nil {w w' : World} {er : Int} (hg : w.grownBy w' none) : zN w er [] (.returned (.tuple #[.slice none 0 0, .int .i64 er])) w' := ⟨none, 0, [], rfl, .inl ⟨rfl, rfl⟩, RowsT.nil, hg⟩
theorem famP_1 (l k m : Nat) : [] ++ ((upTo l (k + 1)).drop 0).map oneB = famP 1 l k m := rfl
theorem famP_2 (l k m : Nat) : ([] ++ ((upTo l (k + 1)).drop 0).map oneB) ++ ((upTo l (k + 1 + 1)).drop 1).map preB = famP 2 l (k + 1) m := rfl
theorem famP_3 (l k m : Nat) : ([] ++ ((upTo l (k + 1)).drop 0).map oneB) ++ ((upTo l (k + 1 + 1)).drop 1).map sufB = famP 3 l (k + 1) m := rfl
theorem famP_4 (l k m : Nat) : (([] ++ ((upTo l (k + 1)).drop 0).map oneB) ++ ((upTo l (k + 1 + 1)).drop 1).map sufB) ++ ((upTo l (k + 1 + 1)).drop 1).map preB = famP 4 l (k + 1) m := rfl
theorem famP_5 (l k m : Nat) : ((([] ++ ((upTo l (k + 1)).drop 0).map oneB) ++ ((upTo l (k + 1 + 1)).drop 1).map sufB) ++ ((upTo l (k + 1 + 1)).drop 1).map preB) ++ ((upTo l (k + 1 + 1)).drop 1).map facB = famP 5 l (k + 1) m := rfl
theorem famP_6 (l k m : Nat) : ((upTo l (k + 1)).drop 1).map zY = famP 6 l k m := rfl
theorem famP_7 (l k m : Nat) : chL (upTo l (k + 1)) (m + 1) = famP 7 l k m := rfl
set_option maxRecDepth 100000 in
set_option maxHeartbeats 2000000 in
theorem wB (kind letters k m : Int) (w : World) :
  Calls Try.prog 11 #[.int .i64 kind, .int .i64 letters, .int .i64 k, .int .i64 m] w (zN w (famE kind letters k m) (famL kind letters k m)) := by
 have HVO := Kh (validOrder_any kind letters k m w)
 cases ho : zU kind letters k m with
 | false =>
  have e1 : famE kind letters k m = 1 := by rw [famE, if_pos ho]
  have e2 : famL kind letters k m = [] := by rw [famL, e1]; rfl
  rw [e1, e2]
  rw [ho] at HVO
  clear e1 e2 ho
  go_enter Try.func11, Try.ntmps11
  go_wp2_with fail
  refine HVO.out.mono ?_
  rintro e w ⟨rfl, rfl⟩
  go_wp2
  refine bodyPost_ret (v := .tuple #[.slice none 0 0, .int .i64 1]) (by simp [results, Try.results11, go_sem]) rfl ?_
  exact zN.nil (zF _ _)
 | true =>
 rw [ho] at HVO
 have ho2 := ho
 simp only [zU, decide_eq_true_eq] at ho2
 obtain ⟨hk1, hk7, hl1, hl6, hk, hk8, hm⟩ := ho2
 have hm0 : 0 ≤ m ∧ m ≤ 4 := by split at hm <;> omega
 have hk0 : 0 ≤ k := by split at hk <;> omega
 obtain ⟨L, rfl⟩ : ∃ L : Nat, letters = (L : Int) := ⟨letters.toNat, by omega⟩
 obtain ⟨K, rfl⟩ : ∃ K : Nat, k = (K : Int) := ⟨k.toNat, by omega⟩
 obtain ⟨M, rfl⟩ : ∃ M : Nat, m = (M : Int) := ⟨m.toNat, by omega⟩
 have HSZ := Kh (size_any kind L K M w hk1 hk7 (by omega) (by omega) (by omega) (by omega) (by omega))
 have hsz := wD (letters := L) (k := K) (m := M) hk1 hk7 (by omega) (fun h => by rw [if_neg h] at hk; omega)
 have HSE := Kh hsz
 have hHo := Kh ho
 by_cases h6 : kind = 6 ∧ 8 < (K : Int) + 2
 ·have e1 : famE kind L K M = 3 := by rw [famE, if_neg (by rw [ho]; simp), if_pos (.inl h6)]
  have e2 : famL kind L K M = [] := by rw [famL, e1]; rfl
  rw [e1, e2]
  obtain ⟨rfl, h62⟩ := h6
  clear e1 e2 ho hsz hm hk
  go_enter Try.func11, Try.ntmps11
  go_wp2_with fail
  refine HVO.out.mono ?_
  rintro e w ⟨rfl, rfl⟩
  go_wp2
  refine bodyPost_ret (v := .tuple #[.slice none 0 0, .int .i64 3]) (by simp [results, Try.results11, go_sem]) rfl ?_
  exact zN.nil (zF _ _)
 have hguard : kind = 6 → (K : Int) + 2 ≤ 8 := fun h => by
  have : ¬ 8 < (K : Int) + 2 := fun h2 => h6 ⟨h, h2⟩
  omega
 by_cases hs : 300 < sizeV kind L K M
 ·have e1 : famE kind L K M = 3 := by rw [famE, if_neg (by rw [ho]; simp), if_pos (.inr (by simpa using hs))]
  have e2 : famL kind L K M = [] := by rw [famL, e1]; rfl
  rw [e1, e2]
  obtain ⟨sz, hsz2⟩ : ∃ sz, sz = sizeV kind L K M := ⟨_, rfl⟩
  rw [← hsz2] at hs HSZ
  clear e1 e2 ho hsz hsz2 hm hk HSE h6
  by_cases h66 : kind = 6
  ·have hg := hguard h66
   subst h66
   go_enter Try.func11, Try.ntmps11
   go_wp2_with fail
   refine HVO.out.mono ?_
   rintro e w ⟨rfl, rfl⟩
   go_wp2_with fail
   refine HSZ.out.mono ?_
   rintro e w ⟨rfl, rfl⟩
   go_wp2
   refine bodyPost_ret (v := .tuple #[.slice none 0 0, .int .i64 3]) (by simp [results, Try.results11, go_sem]) rfl ?_
   exact zN.nil (zF _ _)
  ·have q6 : (kind == 6) = false := by rw [beq_eq_false_iff_ne]; exact h66
   go_enter Try.func11, Try.ntmps11
   go_wp2_with fail
   refine HVO.out.mono ?_
   rintro e w ⟨rfl, rfl⟩
   go_wp2_with fail
   refine HSZ.out.mono ?_
   rintro e w ⟨rfl, rfl⟩
   go_wp2
   refine bodyPost_ret (v := .tuple #[.slice none 0 0, .int .i64 3]) (by simp [results, Try.results11, go_sem]) rfl ?_
   exact zN.nil (zF _ _)
 have e1 : famE kind L K M = 0 := by
  rw [famE, if_neg (by rw [ho]; simp), if_neg]
  rintro (h | h)
  ·exact h6 h
  ·exact hs (by simpa using h)
 have e2 : famL kind L K M = famP kind L K M := by rw [famL, e1]; simp
 rw [e1, e2]
 have hle : (famP kind L K M).length ≤ 300 := by have := hsz; omega
 obtain ⟨sz, hsz2⟩ : ∃ sz, sz = sizeV kind L K M := ⟨_, rfl⟩
 rw [← hsz2] at hs HSZ
 clear e1 e2 ho hsz hsz2 hm HSE h6
 have hcase : kind = 1 ∨ kind = 2 ∨ kind = 3 ∨ kind = 4 ∨ kind = 5 ∨ kind = 6 ∨ kind = 7 := by omega
 rcases hcase with rfl | rfl | rfl | rfl | rfl | rfl | rfl
 ·have HE := Kh (ends1_any L K w (by omega) (by omega) (by omega))
  rw [famP_1 L K M] at HE
  have HLE := Kh hle
  clear hle hguard hk
  obtain ⟨PS, hPS⟩ : ∃ PS, PS = famP 1 L K M := ⟨_, rfl⟩
  rw [← hPS] at HE ⊢
  clear hPS HLE
  go_enter Try.func11, Try.ntmps11
  go_wp2_with fail
  refine HVO.out.mono ?_
  rintro e w ⟨rfl, rfl⟩
  go_wp2_with fail
  refine HSZ.out.mono ?_
  rintro e w ⟨rfl, rfl⟩
  go_wp2_with fail
  refine HE.out.mono ?_
  rintro e w2 ⟨sa, sc, svs, rfl, hr, hrs, hg⟩
  have HR := Kh hr; have HRS := Kh hrs
  clear hr hrs
  go_wp2
  refine bodyPost_ret (v := .tuple #[.slice sa PS.length sc, .int .i64 0]) (by simp [results, Try.results11, go_sem]) rfl ?_
  exact ⟨sa, sc, svs, rfl, HR.out, HRS.out, hg⟩
 ·obtain ⟨K, rfl⟩ : ∃ k', K = k' + 1 := ⟨K - 1, by simp at hk; omega⟩
  have HE := Kh (ends2_any L K (K + 1) w (by omega) (by omega) (by omega) rfl)
  rw [famP_2 L K M] at HE
  obtain ⟨KK, hKK⟩ : ∃ KK, KK = K + 1 := ⟨_, rfl⟩
  rw [← hKK] at HE HSZ HVO hle hguard ⊢
  have hKK8 : KK ≤ 8 := by omega
  clear hKK hk0 hk8
  have HLE := Kh hle
  clear hle hguard hk
  obtain ⟨PS, hPS⟩ : ∃ PS, PS = famP 2 L KK M := ⟨_, rfl⟩
  rw [← hPS] at HE ⊢
  clear hPS HLE
  go_enter Try.func11, Try.ntmps11
  go_wp2_with fail
  refine HVO.out.mono ?_
  rintro e w ⟨rfl, rfl⟩
  go_wp2_with fail
  refine HSZ.out.mono ?_
  rintro e w ⟨rfl, rfl⟩
  go_wp2_with fail
  refine HE.out.mono ?_
  rintro e w2 ⟨sa, sc, svs, rfl, hr, hrs, hg⟩
  have HR := Kh hr; have HRS := Kh hrs
  clear hr hrs
  go_wp2
  refine bodyPost_ret (v := .tuple #[.slice sa PS.length sc, .int .i64 0]) (by simp [results, Try.results11, go_sem]) rfl ?_
  exact ⟨sa, sc, svs, rfl, HR.out, HRS.out, hg⟩
 ·obtain ⟨K, rfl⟩ : ∃ k', K = k' + 1 := ⟨K - 1, by simp at hk; omega⟩
  have HE := Kh (ends3_any L K (K + 1) w (by omega) (by omega) (by omega) rfl)
  rw [famP_3 L K M] at HE
  obtain ⟨KK, hKK⟩ : ∃ KK, KK = K + 1 := ⟨_, rfl⟩
  rw [← hKK] at HE HSZ HVO hle hguard ⊢
  have hKK8 : KK ≤ 8 := by omega
  clear hKK hk0 hk8
  have HLE := Kh hle
  clear hle hguard hk
  obtain ⟨PS, hPS⟩ : ∃ PS, PS = famP 3 L KK M := ⟨_, rfl⟩
  rw [← hPS] at HE ⊢
  clear hPS HLE
  go_enter Try.func11, Try.ntmps11
  go_wp2_with fail
  refine HVO.out.mono ?_
  rintro e w ⟨rfl, rfl⟩
  go_wp2_with fail
  refine HSZ.out.mono ?_
  rintro e w ⟨rfl, rfl⟩
  go_wp2_with fail
  refine HE.out.mono ?_
  rintro e w2 ⟨sa, sc, svs, rfl, hr, hrs, hg⟩
  have HR := Kh hr; have HRS := Kh hrs
  clear hr hrs
  go_wp2
  refine bodyPost_ret (v := .tuple #[.slice sa PS.length sc, .int .i64 0]) (by simp [results, Try.results11, go_sem]) rfl ?_
  exact ⟨sa, sc, svs, rfl, HR.out, HRS.out, hg⟩
 ·obtain ⟨K, rfl⟩ : ∃ k', K = k' + 1 := ⟨K - 1, by simp at hk; omega⟩
  have HE := Kh (ends4_any L K (K + 1) w (by omega) (by omega) (by omega) rfl)
  rw [famP_4 L K M] at HE
  obtain ⟨KK, hKK⟩ : ∃ KK, KK = K + 1 := ⟨_, rfl⟩
  rw [← hKK] at HE HSZ HVO hle hguard ⊢
  have hKK8 : KK ≤ 8 := by omega
  clear hKK hk0 hk8
  have HLE := Kh hle
  clear hle hguard hk
  obtain ⟨PS, hPS⟩ : ∃ PS, PS = famP 4 L KK M := ⟨_, rfl⟩
  rw [← hPS] at HE ⊢
  clear hPS HLE
  go_enter Try.func11, Try.ntmps11
  go_wp2_with fail
  refine HVO.out.mono ?_
  rintro e w ⟨rfl, rfl⟩
  go_wp2_with fail
  refine HSZ.out.mono ?_
  rintro e w ⟨rfl, rfl⟩
  go_wp2_with fail
  refine HE.out.mono ?_
  rintro e w2 ⟨sa, sc, svs, rfl, hr, hrs, hg⟩
  have HR := Kh hr; have HRS := Kh hrs
  clear hr hrs
  go_wp2
  refine bodyPost_ret (v := .tuple #[.slice sa PS.length sc, .int .i64 0]) (by simp [results, Try.results11, go_sem]) rfl ?_
  exact ⟨sa, sc, svs, rfl, HR.out, HRS.out, hg⟩
 ·obtain ⟨K, rfl⟩ : ∃ k', K = k' + 1 := ⟨K - 1, by simp at hk; omega⟩
  have HE := Kh (ends5_any L K (K + 1) w (by omega) (by omega) (by omega) rfl)
  rw [famP_5 L K M] at HE
  obtain ⟨KK, hKK⟩ : ∃ KK, KK = K + 1 := ⟨_, rfl⟩
  rw [← hKK] at HE HSZ HVO hle hguard ⊢
  have hKK8 : KK ≤ 8 := by omega
  clear hKK hk0 hk8
  have HLE := Kh hle
  clear hle hguard hk
  obtain ⟨PS, hPS⟩ : ∃ PS, PS = famP 5 L KK M := ⟨_, rfl⟩
  rw [← hPS] at HE ⊢
  clear hPS HLE
  go_enter Try.func11, Try.ntmps11
  go_wp2_with fail
  refine HVO.out.mono ?_
  rintro e w ⟨rfl, rfl⟩
  go_wp2_with fail
  refine HSZ.out.mono ?_
  rintro e w ⟨rfl, rfl⟩
  go_wp2_with fail
  refine HE.out.mono ?_
  rintro e w2 ⟨sa, sc, svs, rfl, hr, hrs, hg⟩
  have HR := Kh hr; have HRS := Kh hrs
  clear hr hrs
  go_wp2
  refine bodyPost_ret (v := .tuple #[.slice sa PS.length sc, .int .i64 0]) (by simp [results, Try.results11, go_sem]) rfl ?_
  exact ⟨sa, sc, svs, rfl, HR.out, HRS.out, hg⟩
 ·have hg6 := hguard rfl
  have HE := Kh (pieces_any L K w (by omega) (by omega) (by simp at hk; omega) (by omega))
  rw [famP_6 L K M] at HE
  have HLE := Kh hle
  clear hle hguard hk
  obtain ⟨PS, hPS⟩ : ∃ PS, PS = famP 6 L K M := ⟨_, rfl⟩
  rw [← hPS] at HE ⊢
  clear hPS HLE
  go_enter Try.func11, Try.ntmps11
  go_wp2_with fail
  refine HVO.out.mono ?_
  rintro e w ⟨rfl, rfl⟩
  go_wp2_with fail
  refine HSZ.out.mono ?_
  rintro e w ⟨rfl, rfl⟩
  go_wp2_with fail
  refine HE.out.mono ?_
  rintro e w2 ⟨sa, sc, svs, rfl, hr, hrs, hg⟩
  have HR := Kh hr; have HRS := Kh hrs
  clear hr hrs
  go_wp2
  refine bodyPost_ret (v := .tuple #[.slice sa PS.length sc, .int .i64 0]) (by simp [results, Try.results11, go_sem]) rfl ?_
  exact ⟨sa, sc, svs, rfl, HR.out, HRS.out, hg⟩
 ·have HE := Kh (chains_any L K M w (by omega) (by omega) (by omega) (by omega) (by rw [famP_7 L K M]; omega) (yL (by omega) (by simp at hk; omega)))
  rw [famP_7 L K M] at HE
  have HLE := Kh hle
  clear hle hguard hk
  obtain ⟨PS, hPS⟩ : ∃ PS, PS = famP 7 L K M := ⟨_, rfl⟩
  rw [← hPS] at HE ⊢
  clear hPS HLE
  go_enter Try.func11, Try.ntmps11
  go_wp2_with fail
  refine HVO.out.mono ?_
  rintro e w ⟨rfl, rfl⟩
  go_wp2_with fail
  refine HSZ.out.mono ?_
  rintro e w ⟨rfl, rfl⟩
  go_wp2_with fail
  refine HE.out.mono ?_
  rintro e w2 ⟨sa, sc, svs, rfl, hr, hrs, hg⟩
  have HR := Kh hr; have HRS := Kh hrs
  clear hr hrs
  go_wp2
  refine bodyPost_ret (v := .tuple #[.slice sa PS.length sc, .int .i64 0]) (by simp [results, Try.results11, go_sem]) rfl ?_
  exact ⟨sa, sc, svs, rfl, HR.out, HRS.out, hg⟩
end Go.Proofs.Ytgbfaggnnfoamaa
