/- Part 31 of the proof: ValidP, Trim. -/
import Derived.Test.YtgbfaggnnfoamaaZg30
set_option linter.unusedVariables false
set_option linter.unusedSimpArgs false
namespace Go.Proofs.Ytgbfaggnnfoamaa
open Go.RowKit
set_option maxHeartbeats 800000 in
theorem wS (B : Nat) (w : World) (v : Value) (d : DfaV) (hB : B ≤ w.heap.size) (h : vU B w v d) :
  Calls Try.prog 63 #[v] w fun e w' => e = .returned (.int .i64 (vV d)) ∧ w.grownBy w' none := by
 obtain ⟨fv, nv, rfl, hf, hn⟩ := h
 have hfl := hf.len_le
 rw [yR] at hfl
 unfold maxLen at hfl
 have hnl := hn.len_le
 unfold maxLen at hnl
 obtain ⟨fa, fc, rfl⟩ := hf.shape
 rw [yR] at hf ⊢
 obtain ⟨na, nc, rfl⟩ := hn.shape
 have HN := Kh hn
 obtain ⟨n, hnn⟩ : ∃ n, n = d.final.length := ⟨_, rfl⟩
 obtain ⟨m, hmm⟩ : ∃ m, m = d.next.length := ⟨_, rfl⟩
 obtain ⟨L, hL⟩ : ∃ L, L = d.letters := ⟨_, rfl⟩
 obtain ⟨S, hS⟩ : ∃ S, S = d.start := ⟨_, rfl⟩
 rw [← hnn] at hfl ⊢
 rw [← hmm] at hnl HN ⊢
 rw [← hL, ← hS]
 have HNN := Kh hnn; have HMM := Kh hmm; have HLL := Kh hL; have HSS := Kh hS
 clear hf hn hnn hmm hL hS
 obtain ⟨wA, hWA⟩ : ∃ wA, wA = w.alloc (.cells #[.int .i64 L, .int .i64 S, .slice fa n fc, .slice na m nc] 49) := ⟨_, rfl⟩
 have hbox : wA.heap[w.heap.size]? = some (.cells #[.int .i64 L, .int .i64 S, .slice fa n fc, .slice na m nc] 49 (0, 0)) := by rw [hWA]; exact heap_alloc_new w _
 have hgA : w.grownBy wA none := by rw [hWA]; exact World.grownBy_alloc w _ none
 have c0 := zO hbox 0 (by simp)
 have c1 := zO hbox 1 (by simp)
 have c2 := zO hbox 2 (by simp)
 have c3 := zO hbox 3 (by simp)
 simp only [List.getElem_toArray, List.getElem_cons_zero, List.getElem_cons_succ] at c0 c1 c2 c3
 have HGA := Kh hgA; have HWA := Kh hWA
 clear hbox hgA hWA
 by_cases hl : L < 1 ∨ 6 < L
 ·have HE := Kh (validD_letters (d := d) (by rw [← HLL.out]; exact hl))
  by_cases h1 : L < 1
  ·clear hl
   go_enter Try.func63, Try.ntmps63
   go_upto_region 1 with fail
   rw [← HWA.out]
   go_wp2
   go_ret
   exact ⟨zY HE.out.symm, HGA.out⟩
  ·have h6 : 6 < L := by omega
   clear hl
   go_enter Try.func63, Try.ntmps63
   go_upto_region 1 with fail
   rw [← HWA.out]
   go_wp2
   go_ret
   exact ⟨zY HE.out.symm, HGA.out⟩
 ·have hl1 : 1 ≤ L := by omega
  have hl6 : L ≤ 6 := by omega
  have HLT : Hid (¬ (d.letters < 1 ∨ 6 < d.letters)) := Kh (by rw [← HLL.out]; exact hl)
  clear hl
  by_cases h5 : 512 < n
  ·have HE := Kh (validD_big HLT.out (by rw [← HNN.out]; exact h5))
   go_enter Try.func63, Try.ntmps63
   go_upto_region 1 with fail
   rw [← HWA.out]
   go_wp2
   go_ret
   exact ⟨zY HE.out.symm, HGA.out⟩
  ·have H5 : Hid (¬ 512 < d.final.length) := Kh (by rw [← HNN.out]; exact h5)
   by_cases hsh : n = 0 ∨ m ≠ n ∨ S < 0 ∨ n ≤ S
   ·have HE := Kh (validD_shape HLT.out H5.out (by rw [← HNN.out, ← HMM.out, ← HSS.out]; exact hsh))
    ·by_cases hmn : m = n
     ·have e1 : ((m : Int) != n) = false := by rw [hmn]; simp
      have HMN := Kh hmn
      by_cases hs : S < 0
      ·clear hsh hmn
       go_enter Try.func63, Try.ntmps63
       go_upto_region 1 with fail
       rw [← HWA.out]
       go_wp2
       go_ret
       exact ⟨zY HE.out.symm, HGA.out⟩
      ·have hs2 : (n : Int) ≤ S := by omega
       clear hsh hmn
       go_enter Try.func63, Try.ntmps63
       go_upto_region 1 with fail
       rw [← HWA.out]
       go_wp2
       go_ret
       exact ⟨zY HE.out.symm, HGA.out⟩
     ·have e1 : ((m : Int) != n) = true := by rw [bne_iff_ne]; omega
      clear hsh
      go_enter Try.func63, Try.ntmps63
      go_upto_region 1 with fail
      rw [← HWA.out]
      go_wp2
      go_ret
      exact ⟨zY HE.out.symm, HGA.out⟩
   ·have HSH : Hid (¬ (d.final.length = 0 ∨ d.next.length ≠ d.final.length ∨ d.start < 0 ∨ d.final.length ≤ d.start)) := Kh (by rw [← HNN.out, ← HMM.out, ← HSS.out]; exact hsh)
    have h0 : 0 < n := by omega
    have e0 : ((n : Int) == 0) = false := by rw [beq_eq_false_iff_ne]; omega
    have hmn : m = n := by omega
    have e1 : ((m : Int) != n) = false := by rw [hmn]; simp
    have hs1 : 0 ≤ S := by omega
    have hs2 : S < n := by omega
    have hm0 : 0 < m := by omega
    have hN2 : Mat B wA (.slice na m nc) d.next := HN.out.kept HGA.out (by simp)
    obtain ⟨b, off, cap, A, C, e, hc1, hc2, hma⟩ := hN2.some_ (by rw [← HMM.out]; exact hm0)
    simp only [Value.slice.injEq] at e
    obtain ⟨rfl, -, rfl⟩ := e
    rw [← HMM.out] at hc1
    have hmx : nc ≤ 9223372036854775807 := by unfold maxLen at hc2; omega
    have HM := Kh hma
    have HMN := Kh hmn
    clear hsh hmn hN2 hma
    go_enter Try.func63, Try.ntmps63
    go_upto_region 1 with fail
    rw [← HWA.out]
    go_wp2
    go_loopg [40] m (fun g i wr => ∃ k : Nat, g + k = m ∧ i = .int .i64 k ∧ DRows d k ∧ wA = wr)
    case atStart => exact ⟨0, rfl, rfl, fun x hx => absurd hx (by omega), rfl⟩
    case round =>
     obtain ⟨k, hg, rfl, hok, rfl⟩ := hrel
     have OK := Kh hok; have HG := Kh hg
     clear hok hg
     by_cases hk : k < m
     ·have hkl : k < d.next.length := by rw [← HMM.out]; exact hk
      have hcx := HM.out.hd k hkl
      have hrow := HM.out.row k hkl
      have hrl := hrow.len_le
      rw [yV] at hrl
      unfold maxLen at hrl
      obtain ⟨r, hr⟩ : ∃ r, r = d.next.getD k [] := ⟨_, rfl⟩
      rw [← hr] at hcx hrow hrl
      have HR := Kh hr; have HKL := Kh hkl
      clear hr hkl
      by_cases hlr : (r.length : Int) = L
      ·have HLR := Kh hlr
       have hl' : ((r.length : Int) != L) = false := by rw [hlr]; simp
       obtain ⟨rb, ro, rc, e, hb, h1, h2, hra⟩ := hrow.some_ (by rw [yV]; omega)
       simp only [Value.slice.injEq] at e
       obtain ⟨eA, -, rfl⟩ := e
       rw [eA] at hcx
       rw [yV] at h1
       have HA := Kh eA; have RA := Kh hra
       clear eA hra hlr hrow
       go_wp2
       go_loopg [51] r.length (fun g j wr' => ∃ y : Nat, g + y = r.length ∧ j = .int .i64 y ∧ EntsOk n r y ∧ wA = wr')
       case atStart => exact ⟨0, rfl, rfl, fun x hx => absurd hx (by omega), rfl⟩
       case round =>
        obtain ⟨y, hg, rfl, hok, rfl⟩ := hrel
        have OKY := Kh hok; have HG2 := Kh hg
        clear hok hg
        by_cases hy : y < r.length
        ·have hcy := RA.out.int y hy
         obtain ⟨z, hz⟩ : ∃ z, z = r.getD y 0 := ⟨_, rfl⟩
         rw [← hz] at hcy
         have HZ := Kh hz
         clear hz
         by_cases hb1 : z < 0
         ·have HE := Kh (sR HLT.out H5.out HSH.out HKL.out (by rw [← HR.out]; exact mD (y := y) hy (by rw [← HZ.out]; exact .inl hb1)))
          go_wp2
          go_ret
          exact ⟨zY HE.out.symm, HGA.out⟩
         ·by_cases hb2 : (n : Int) ≤ z
          ·have HE := Kh (sR HLT.out H5.out HSH.out HKL.out (by rw [← HR.out]; exact mD (y := y) hy (by rw [← HZ.out, ← HNN.out]; exact .inr hb2)))
           go_wp2
           go_ret
           exact ⟨zY HE.out.symm, HGA.out⟩
          ·go_wp2
           go_roundg (r.length - (y + 1))
           case measure => have := HG2.out; omega
           case rel =>
            refine ⟨y + 1, by omega, by go_num, fun x hx => ?_, rfl⟩
            rcases Nat.lt_succ_iff_lt_or_eq.1 hx with hx | rfl
            ·exact OKY.out x hx
            ·rw [← HZ.out]; omega
        ·go_wp2
         go_roundg (m - (k + 1))
         case measure => have := HG.out; omega
         case rel =>
          refine ⟨k + 1, by omega, by go_num, fun x hx => ?_, rfl⟩
          rcases Nat.lt_succ_iff_lt_or_eq.1 hx with hx | rfl
          ·exact OK.out x hx
          ·rw [← HR.out, pW, ← HNN.out, ← HLL.out]
           exact ⟨HLR.out, fun z hz => OKY.out z (by omega)⟩
      ·have hl' : ((r.length : Int) != L) = true := by rw [bne_iff_ne]; exact hlr
       have HE := Kh (sR HLT.out H5.out HSH.out HKL.out (by rw [← HR.out]; exact rowD_len (by rw [← HLL.out]; exact hlr)))
       clear hlr
       go_wp2
       go_ret
       exact ⟨zY HE.out.symm, HGA.out⟩
     ·have HE := Kh (validD_ok HLT.out H5.out HSH.out (fun q hq => OK.out q (by have := HMM.out; omega)))
      go_wp2
      go_ret
      exact ⟨zY HE.out.symm, HGA.out⟩
def wP (n : Nat) (l : List Nat) : List Int := (List.range n).map fun q => uC l q
theorem xW (n : Nat) (l : List Nat) : (wP n l).length = n := by simp [wP]
theorem placeL_get {n : Nat} {l : List Nat} {q : Nat} (h : q < n) : (wP n l).getD q 0 = uC l q := by
 rw [zG (by rw [xW]; exact h)]; simp [wP]
theorem placeL_nil (n : Nat) : wP n [] = List.replicate n (-1) := by
 refine List.ext_getElem (by simp [wP]) fun i h1 h2 => by simp [wP, uC]
theorem placeL_set {n : Nat} {l : List Nat} {q : Nat} (hq : q ∉ l) : (wP n l).set q (l.length : Int) = wP n (l ++ [q]) := by
 refine List.ext_getElem (by simp [wP]) fun i h1 h2 => ?_
 rw [List.getElem_set]
 simp only [wP, List.getElem_map, List.getElem_range, uC]
 by_cases e : q = i
 ·subst e
  rw [if_pos rfl, if_pos (by simp), List.idxOf_append, if_neg hq]; simp
 ·rw [if_neg e]
  by_cases hi : i ∈ l
  ·rw [if_pos hi, if_pos (by simp [hi]), List.idxOf_append, if_pos hi]
  ·rw [if_neg hi, if_neg (by simp [hi, Ne.symm e])]
def oG (n k : Nat) : List Int := List.replicate k (-1) ++ List.replicate (n - k) 0
theorem rL {n k : Nat} (h : k ≤ n) : (oG n k).length = n := by simp [oG]; omega
theorem fillM_set {n k : Nat} (h : k < n) : (oG n k).set k (-1) = oG n (k + 1) := by
 unfold oG
 rw [List.set_append_right _ _ (by simp), List.length_replicate, Nat.sub_self, show n - k = (n - (k + 1)) + 1 by omega, List.replicate_succ, List.set_cons_zero, List.replicate_succ', List.append_assoc]
 rfl
end Go.Proofs.Ytgbfaggnnfoamaa
