/- Part 20 of the proof: Less. -/
import Derived.Test.YtgbfaggnnfoamaaZf19
set_option linter.unusedVariables false
set_option linter.unusedSimpArgs false
namespace Go.Proofs.Ytgbfaggnnfoamaa
open Go.RowKit
theorem blk_drop {p q : List (List Int)} {k : Nat} (hp : k < p.length) (hq : k < q.length) : zR (p.drop k) (q.drop k) = (lessW p[k] q[k] || (decide (p[k] = q[k]) && zR (p.drop (k + 1)) (q.drop (k + 1)))) := by
 rw [List.drop_eq_getElem_cons hp, List.drop_eq_getElem_cons hq]; rfl
theorem cmpI_cases (u v : List Int) : (cmpI u v = -1 ∧ lessW u v = true) ∨ (cmpI u v = 0 ∧ u = v ∧ lessW u v = false) ∨ (cmpI u v = 1 ∧ lessW u v = false ∧ u ≠ v) := by
 unfold cmpI
 cases h : lessW u v with
 | true => exact .inl ⟨by simp, rfl⟩
 | false =>
  by_cases e : u = v
  ·exact .inr (.inl ⟨by simp [e], e, rfl⟩)
  ·exact .inr (.inr ⟨by simp [e], rfl, e⟩)
theorem row_cellS {b off : Nat} {w : World} {ls : List (List Int)} (hra : RowAt w b off (strs ls)) {i : Nat} (hi : i < ls.length) : w.cell? ⟨b, off + i, none⟩ = some (.string (strOfNums ls[i])) := hra.map i hi
set_option maxRecDepth 100000 in
set_option maxHeartbeats 1000000 in
theorem xY (B1 B2 : Nat) (w : World) (v1 v2 : Value) (p q : List (List Int)) (h1 : Row B1 w v1 (strs p)) (h2 : Row B2 w v2 (strs q)) (hp : ∀ u ∈ p, okW u ∧ u.length ≤ 8) (hq : ∀ u ∈ q, okW u ∧ u.length ≤ 8) (hpl : p.length ≤ 100) (hql : q.length ≤ 100) :
  Calls Try.prog 33 #[.agg #[v1], .agg #[v2]] w fun e w' => e = .returned (.bool (lessP p q)) ∧ w.grownBy w' none := by
 have H1 := Kh h1; have H2 := Kh h2; have HP := Kh hp; have HQ := Kh hq
 obtain ⟨a1, c1, rfl⟩ := h1.shape
 obtain ⟨a2, c2, rfl⟩ := h2.shape
 rw [zK] at H1 H2 ⊢
 rw [zK]
 clear h1 h2 hp hq
 obtain ⟨P, hP⟩ : ∃ P, P = w.heap.size := ⟨_, rfl⟩
 obtain ⟨wA, hWA⟩ : ∃ wA, wA = (w.alloc (.cells #[.slice a1 p.length c1] 36)).alloc (.cells #[.slice a2 q.length c2] 36) := ⟨_, rfl⟩
 have b1 := yQ (heap_alloc_new w (.cells #[.slice a1 p.length c1] 36)) (World.grownBy_alloc _ (.cells #[.slice a2 q.length c2] 36) none) (by simp)
 have b2 := heap_alloc_new (w.alloc (.cells #[.slice a1 p.length c1] 36)) (.cells #[.slice a2 q.length c2] 36)
 rw [zB] at b2
 rw [← hWA, ← hP] at b1 b2
 have hgA : w.grownBy wA none := by rw [hWA]; exact yV (World.grownBy_alloc w _ none) _
 have HGA := Kh hgA; have HWA := Kh hWA; have HPE := Kh hP; have HB1 := Kh b1; have HB2 := Kh b2
 clear hgA hWA hP b1 b2
 go_enter Try.func33, Try.ntmps33
 go_upto_region 1 with fail
 rw [← HWA.out, ← HPE.out]
 have k1 := xT HB1.out 0 (by simp)
 have k2 := xT HB2.out 0 (by simp)
 simp only [List.getElem_toArray, List.getElem_cons_zero] at k1 k2
 by_cases hl : p.length = q.length
 ·have hne : ((p.length : Int) != (q.length : Int)) = false := by rw [hl]; simp
  go_wp2
  go_loopg [24] p.length (fun gh i wr => ∃ (k m : Nat), gh + k = p.length ∧ i = .int .i64 (k : Int) ∧ Hid (lessP p q = zR (p.drop k) (q.drop k)) ∧ wr = wA.drewN m)
  case atStart => exact ⟨0, 0, rfl, rfl, Kh (by simp [lessP, hl]), rfl⟩
  case round =>
   obtain ⟨k, m, hgh, rfl, hbl, rfl⟩ := hrel
   have HGH := Kh hgh
   clear hgh
   by_cases hk : k < p.length
   ·have hk' : (k : Int) < p.length := by omega
    have hkq : k < q.length := by omega
    have hkq' : (k : Int) < q.length := by omega
    obtain ⟨b1, o1, d1, e1, _, f1, g1, r1⟩ := (H1.out.kept HGA.out (by simp)).some_ (by rw [zK]; omega)
    obtain ⟨b2, o2, d2, e2, _, f2, g2, r2⟩ := (H2.out.kept HGA.out (by simp)).some_ (by rw [zK]; omega)
    rw [zK] at e1 f1 e2 f2
    simp only [Value.slice.injEq] at e1 e2
    obtain ⟨rfl, _, rfl⟩ := e1
    obtain ⟨rfl, _, rfl⟩ := e2
    have x1 := row_cellS r1 hk
    have x2 := row_cellS r2 hkq
    have hm1 : c1 ≤ 9223372036854775807 := by unfold maxLen at g1; omega
    have hm2 : c2 ≤ 9223372036854775807 := by unfold maxLen at g2; omega
    have hu := HP.out _ (List.getElem_mem hk)
    have hv := HQ.out _ (List.getElem_mem hkq)
    have hst := blk_drop hk hkq
    obtain ⟨u, hu2⟩ : ∃ u, u = p[k] := ⟨_, rfl⟩
    obtain ⟨v, hv2⟩ : ∃ v, v = q[k] := ⟨_, rfl⟩
    rw [← hu2] at x1 hu hst
    rw [← hv2] at x2 hv hst
    have HCM : ∀ W : World, Hid (Calls Try.prog 54 #[.string (strOfNums u), .string (strOfNums v)] W fun e w' => e = .returned (.int .i64 (cmpI u v)) ∧ W = w') := fun W => Kh (compare_any u v W (by omega) (by omega) hu.1 hv.1)
    rcases cmpI_cases u v with ⟨hc, hw⟩ | ⟨hc, he, hw⟩ | ⟨hc, hw, he⟩
    ·have HR : Hid (lessP p q = true) := Kh (by rw [hbl.out, hst, hw]; rfl)
     rw [hc] at HCM
     clear r1 r2 g1 g2 hu hv hst hu2 hv2 hw hc
     go_wp2
     go_quiet ((go_at_call 54; exact xQ (HCM _).out))
     go_wp2
     go_ret
     exact ⟨zV HR.out.symm, zA HGA.out (zD wA _ none) (by simp)⟩
    ·have HR : Hid (lessP p q = zR (p.drop (k + 1)) (q.drop (k + 1))) := Kh (by rw [hbl.out, hst, hw, decide_eq_true he]; rfl)
     rw [hc] at HCM
     clear r1 r2 g1 g2 hu hv hst hu2 hv2 hw hc he
     go_wp2
     go_quiet ((go_at_call 54; exact xQ (HCM _).out))
     go_wp2
     go_roundg (p.length - (k + 1))
     case measure => have := HGH.out; omega
     case rel => exact ⟨k + 1, _, by omega, by go_num, HR, rfl⟩
    ·have HR : Hid (lessP p q = false) := Kh (by rw [hbl.out, hst, hw, decide_eq_false he]; rfl)
     rw [hc] at HCM
     clear r1 r2 g1 g2 hu hv hst hu2 hv2 hw hc he
     go_wp2
     go_quiet ((go_at_call 54; exact xQ (HCM _).out))
     go_wp2
     go_ret
     exact ⟨zV HR.out.symm, zA HGA.out (zD wA _ none) (by simp)⟩
   ·have HR : Hid (lessP p q = false) := Kh (by rw [hbl.out, List.drop_of_length_le (by omega)]; rfl)
    go_wp2
    go_ret
    exact ⟨zV HR.out.symm, zA HGA.out (zD wA _ none) (by simp)⟩
 ·have hne : ((p.length : Int) != (q.length : Int)) = true := by rw [bne_iff_ne]; omega
  have HR : Hid (lessP p q = decide (p.length < q.length)) := Kh (by
   rw [lessP, decide_eq_false hl, Bool.false_and, Bool.or_false])
  go_wp2
  go_ret
  exact ⟨zV (by rw [HR.out]), HGA.out⟩
end Go.Proofs.Ytgbfaggnnfoamaa
