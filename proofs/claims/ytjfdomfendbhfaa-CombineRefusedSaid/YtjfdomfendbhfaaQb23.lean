/- Part 23 of the proof: BSea, PatMap. -/
import Derived.Test.YtjfdomfendbhfaaQb22
set_option linter.unusedVariables false
set_option linter.unusedSimpArgs false
namespace Go.Proofs.Ytjfdomfendbhfaa
open Go.RowKit
def kmpN (k c : Nat) (u : List Nat) (j : Nat) : List Nat := (List.range k).map fun a => c + kmp u (u.take j ++ [a])
def xZ (k c : Nat) (u : List Nat) (m : Nat) : List (List Nat) := (List.range m).map (kmpN k c u)
theorem nG (k c : Nat) (u : List Nat) (j : Nat) : (kmpN k c u j).length = k := by simp [kmpN]
theorem kmpN_get {k c : Nat} {u : List Nat} {j a : Nat} (h : a < k) : (kmpN k c u j).getD a 0 = c + kmp u (u.take j ++ [a]) := yZ _ h _
theorem wG (k c : Nat) (u : List Nat) (m : Nat) : (xZ k c u m).length = m := by simp [xZ]
theorem lK (k c : Nat) (u : List Nat) (m : Nat) : xZ k c u (m + 1) = xZ k c u m ++ [kmpN k c u m] := by simp [xZ, List.range_succ]
theorem searchN_get {k c : Nat} {u : List Nat} {m j : Nat} (h : j < m) : (xZ k c u m).getD j [] = kmpN k c u j := yZ _ h _
theorem row_zero {k c : Nat} {u : List Nat} (hu : u ≠ []) : (List.replicate k c).set (u.getD 0 0) (c + 1) = kmpN k c u 0 := by
 have h0 : 0 < u.length := List.length_pos_iff.2 hu
 refine List.ext_getElem (by simp [kmpN]) fun i h1 h2 => ?_
 rw [List.getElem_set]
 simp only [kmpN, List.getElem_map, List.getElem_range, List.getElem_replicate]
 by_cases e : u.getD 0 0 = i
 ·rw [if_pos e, ← e, kmp_go h0]
 ·rw [if_neg e, kmp_zero (.inr e)]; rfl
theorem row_next {k c : Nat} {u : List Nat} {i : Nat} (h0 : 0 < i) (h : i < u.length) : (kmpN k c u (oJ u i)).set (u.getD i 0) (c + i + 1) = kmpN k c u i := by
 refine List.ext_getElem (by simp [kmpN]) fun j h1 h2 => ?_
 rw [List.getElem_set]
 simp only [kmpN, List.getElem_map, List.getElem_range]
 by_cases e : u.getD i 0 = j
 ·rw [if_pos e, ← e, kmp_go h]; omega
 ·rw [if_neg e, kmp_fall h0 (by omega) (.inr e)]
theorem row_last {k c : Nat} {u : List Nat} (h0 : 0 < u.length) : kmpN k c u (oJ u u.length) = kmpN k c u u.length := by
 refine List.map_congr_left fun a _ => ?_
 rw [kmp_fall h0 (Nat.le_refl _) (.inl rfl)]
theorem srow_get {k : Nat} {t : List (List Nat)} {u : List Nat} {m j : Nat} (h : j < m) : (t ++ xZ k t.length u m).getD (t.length + j) [] = kmpN k t.length u j := by
 rw [xY, searchN_get h]
theorem copy_row {W : World} {g s k : Nat} {r q : List Nat} (hg : Arr W g 3 (nats q)) (hq : q.length = k) (hs : Arr W s 3 (nats r)) (hr : r.length = k) :
  (Builtin.copy_ #[34, 34] 3 #[.slice (some ⟨g, 0, none⟩) k k, .slice (some ⟨s, 0, none⟩) k k]).run Try.prog W = .ok (.int .i64 (k : Int)) (W.setCells g 0 (nats r)) ∧ Arr (W.setCells g 0 (nats r)) g 3 (nats r) ∧ W.grownBy (W.setCells g 0 (nats r)) (some g) := by
 have hl : (nats r).length = k := by rw [yF, hr]
 refine ⟨?_, ?_, ?_⟩
 ·have := run_copy_cells (P := Try.prog) W 34 34 3 3 g 0 k k ⟨s, 0, none⟩ k k (nats r) Try.underlying34 (by kernel_rfl) (by rw [hl]; simp [Nat.min_def])
   (fun j u hj => by
    obtain ⟨hj1, hj2⟩ := List.getElem?_eq_some_iff.1 hj
    have := hs.cell j hj1
    rw [hj2] at this
    have e : (⟨s, 0, none⟩ : Addr).add j = ⟨s, j, none⟩ := by
     unfold Addr.add; split <;> simp_all
    rw [e]; exact this)
   (fun j hj => by rw [Nat.zero_add, hg.cell j (by rw [yF] at *; omega)]; rfl) (fun j _ => hg.frozen _) (fun v hv => by
    obtain ⟨x, _, rfl⟩ := List.mem_map.1 hv; rfl)
  rw [this, hl]; rfl
 ·have := hg.setCells (nats r) 0 (by rw [Nat.zero_add, hl, yF]; omega)
  rw [List.take_zero, List.nil_append, Nat.zero_add, List.drop_eq_nil_of_le (by rw [hl, yF]; omega), List.append_nil] at this
  exact this
 ·have key : ∀ (vs : List Value) (o : Nat) (W : World), W.grownBy (W.setCells g o vs) (some g) := fun vs => by
   induction vs with
   | nil => intro o W; exact zL _ _
   | cons v vs ih => intro o W; rw [World.setCells]; exact zF (zD W ⟨g, o, none⟩ v) (ih (o + 1) _)
  exact key _ _ _
theorem BB.setLast {W0 W W' : World} {bb k : Nat} {t : List (List Nat)} {gs : List Nat} {sn : Option Addr} {cn : Nat} {r r' : List Nat} {g : Nat} (h : BB W0 W bb k (t ++ [r]) (gs ++ [g]) sn cn) (hr : r'.length = k) (hg : W.grownBy W' (some g)) (ha : Arr W' g 3 (nats r')) : BB W0 W' bb k (t ++ [r']) (gs ++ [g]) sn cn := by
 have e : (gs ++ [g]).getD t.length 0 = g := pG h.lastlen.symm
 have := h.set (i := t.length) (by simp) hr (by rw [e]; exact hg) (by rw [e]; exact ha)
 rwa [snoc_set rfl] at this
def Searched (W0 : World) (bb k : Nat) (t : List (List Nat)) (u : List Nat) (e : Ending) (W' : World) : Prop :=
 ∃ gs sn cn, e = .returned (.slice (some ⟨gs.getD (t.length + oJ u u.length) 0, 0, none⟩) k k) ∧ BB W0 W' bb k (t ++ xZ k t.length u u.length) gs sn cn
theorem byte_facts {u : ByteArray} {k i : Nat} (h : ∀ i (hi : i < u.size), 97 ≤ u[i].toNat ∧ u[i].toNat - 97 < k) (hi : i < u.size) : ∃ b a : Nat, (u[i].toNat : Int) = (b : Int) ∧ IntKind.u8.wrap ((b : Int) - 97) = (a : Int) ∧ ((b : Int) - 97) % 256 = (a : Int) ∧ a < k ∧ (zK u).getD i 0 = a := by
 have hb := h i hi
 have h256 : u[i].toNat < 256 := u[i].toNat_lt
 exact ⟨u[i].toNat, u[i].toNat - 97, rfl, u8_sub hb.1 h256, by omega, hb.2, qQ hi⟩
set_option maxRecDepth 100000 in
set_option maxHeartbeats 1600000 in
theorem bsearch_any (W0 W : World) (bb k : Nat) (t : List (List Nat)) (gs : List Nat) (sn : Option Addr) (cn : Nat) (u : ByteArray) (h : BB W0 W bb k t gs sn cn) (ht : t.length ≤ 500) (hk1 : 1 ≤ k) (hk6 : k ≤ 6) (hu : zU u (k : Int) = true) (h0 : 0 < u.size) (hl : u.size ≤ 64) :
  Calls Try.prog 108 #[.pointer (some ⟨bb, 0, none⟩), .string u] W (Searched W0 bb k t (zK u)) := by
 obtain ⟨c0, c1, f1⟩ := h.cells
 have H := Kh h
 have HU := Kh (uA hu)
 obtain ⟨v, hv⟩ : ∃ v, v = zK u := ⟨_, rfl⟩
 have hvl : v.length = u.size := by rw [hv, yP]
 have hv0 : v ≠ [] := by intro e; rw [e] at hvl; simp at hvl; omega
 rw [← hv]
 have HV := Kh hv; have HV0 := Kh hv0; have HVL := Kh hvl
 obtain ⟨c, hc⟩ : ∃ c, c = t.length := ⟨_, rfl⟩
 rw [← hc] at c1 ht
 have HC := Kh hc
 have hi0 : (0 : Int) < u.size := by omega
 clear h hu hv hvl hv0 hc
 go_enter Try.func108, Try.ntmps108
 go_wp2_with fail
 refine (qZ W0 W bb k t gs sn cn c H.out hk1 hk6 (by have := HC.out; omega)).mono ?_
 rintro e w1 ⟨g, sn1, cn1, rfl, hb1⟩
 obtain ⟨b0, a0, hb0, hw0, hm0, ha0, hl0⟩ := byte_facts HU.out.2.1 h0
 have hr := hb1.last
 have ca := hr.1.nat a0 (by simp; omega)
 have fa := hr.1.frozen a0
 have ha0' : (a0 : Int) < k := by omega
 have hrl : (nats (List.replicate k c)).length = k := by rw [yF, List.length_replicate]
 have HB1 : Hid (BB W0 (w1.setCell ⟨g, a0, none⟩ (.int .i64 ((c + 1 : Nat) : Int))) bb k (t ++ xZ k c v 1) (gs ++ [g]) sn1 cn1) := Kh (by
  have := hb1.putLast ha0 (c + 1)
  rw [show xZ k c v 1 = [kmpN k c v 0] by rfl, ← row_zero HV0.out, HV.out, hl0]; exact this)
 clear hr hb1 hl0 c0 c1 f1 H
 go_wp2_with fail
 obtain ⟨w2, hw2⟩ : ∃ w2, w2 = w1.setCell ⟨g, a0, none⟩ (.int .i64 ((c : Int) + 1)) := ⟨_, rfl⟩
 have HB2 : Hid (BB W0 w2 bb k (t ++ xZ k c v 1) (gs ++ [g]) sn1 cn1) := Kh (by
  rw [hw2, show ((c : Int) + 1) = ((c + 1 : Nat) : Int) by omega]; exact HB1.out)
 rw [← hw2]
 clear hw2 ca fa HB1
 go_loopg [7, 8, 9] (u.size - 1) (fun gh a7 i a9 wr => ∃ (j : Nat) (gs : List Nat) (sn : Option Addr) (cn : Nat), gh + j = u.size ∧ i = .int .i64 j ∧ 1 ≤ j ∧ a7 = .int .i64 ((c + oJ v j : Nat) : Int) ∧ BB W0 wr bb k (t ++ xZ k c v j) gs sn cn)
 case atStart => exact ⟨1, _, _, _, by omega, rfl, Nat.le_refl _, by rw [backK_one (by rw [HVL.out]; omega)]; rfl, HB2.out⟩
 case round =>
  clear HB2
  obtain ⟨j, gs, sn, cn, hgh, rfl, hj1, rfl, hbb⟩ := hrel
  have HGH := Kh hgh
  have hju : j ≤ u.size := by omega
  clear hgh
  have htl : (t ++ xZ k c v j).length = c + j := by rw [List.length_append, wG, HC.out]
  have hbk : oJ v j < j := backK_lt (by omega) (by rw [HVL.out]; exact hju)
  obtain ⟨q, hq⟩ : ∃ q, q = oJ v j := ⟨_, rfl⟩
  rw [← hq] at hbk ⊢
  have HQ := Kh hq; have HTL := Kh htl
  clear hq htl
  by_cases hj : j < u.size
  ·have hj' : (j : Int) < u.size := by omega
   go_wp2_with fail
   refine (qZ W0 wr bb k _ gs sn cn c hbb hk1 hk6 (by rw [HTL.out]; omega)).mono ?_
   rintro e w4 ⟨g4, sn4, cn4, rfl, hb4⟩
   obtain ⟨c0, c1, f1⟩ := hb4.cells
   rw [List.length_append, HTL.out, List.length_singleton] at c1
   obtain ⟨hq4, cap4, rfl, rfl, hc4, hm4, hd4⟩ := hb4.hd (by rw [List.length_append, List.length_singleton]; omega)
   rw [List.length_append, HTL.out, List.length_singleton] at hc4 hd4
   have hsr := hb4.row (c + q) (by rw [List.length_append, HTL.out]; omega)
   have hgl : gs.length = c + j := by rw [hbb.len, HTL.out]
   have e1 : (gs ++ [g4]).getD (c + q) 0 = gs.getD (c + q) 0 := yK (by omega) 0
   have e2 : ((t ++ xZ k c v j) ++ [List.replicate k c]).getD (c + q) [] = kmpN k c v q := by
    rw [yK (by rw [HTL.out]; omega), HC.out, srow_get hbk]
   rw [e1, e2] at hsr
   have chd := hd4 (c + q) (by omega)
   rw [e1] at chd
   obtain ⟨s, hs⟩ : ∃ s, s = gs.getD (c + q) 0 := ⟨_, rfl⟩
   rw [← hs] at hsr chd
   replace chd : w4.cell? ⟨hq4, c + q, none⟩ = some (.slice (some ⟨s, 0, none⟩) k k) := chd
   obtain ⟨hcp, hca, hcg⟩ := copy_row hb4.last.1 hb4.last.2 hsr.1 hsr.2
   have hb5 := hb4.setLast hsr.2 hcg hca
   obtain ⟨w5, hw5⟩ : ∃ w5, w5 = w4.setCells g4 0 (nats (kmpN k c v q)) := ⟨_, rfl⟩
   rw [← hw5] at hcp hb5
   obtain ⟨b0, a0, hb0, hw0, hm0, ha0, hl0⟩ := byte_facts HU.out.2.1 hj
   have hr5 := hb5.last
   have ca := hr5.1.nat a0 (by rw [nG]; exact ha0)
   have fa := hr5.1.frozen a0
   have ha0' : (a0 : Int) < k := by omega
   have hrl : (nats (kmpN k c v q)).length = k := by rw [yF, nG]
   have hcm : cn4 ≤ 9223372036854775807 := by unfold maxLen at hm4; omega
   have HB5 := Kh hb5; have HL0 := Kh hl0; have HS := Kh hs; have HGL := Kh hgl; have HB0 := Kh hbb
   have hcq : (c : Int) + q < c + j + 1 := by omega
   clear hsr hca hcg hb4 hb5 hr5 hl0 hs hgl hd4 hm4 hbb hw5
   obtain ⟨w6, hw6⟩ : ∃ w6, w6 = w5.setCell ⟨g4, a0, none⟩ (.int .i64 ((c : Int) + j + 1)) := ⟨_, rfl⟩
   have HB6 : Hid (BB W0 w6 bb k (t ++ xZ k c v (j + 1)) (gs ++ [g4]) (some ⟨hq4, 0, none⟩) cn4) := Kh (by
    have := HB5.out.putLast ha0 (c + j + 1)
    have ea : v.getD j 0 = a0 := by rw [HV.out]; exact HL0.out
    have er : (kmpN k c v q).set a0 (c + j + 1) = kmpN k c v j := by
     rw [HQ.out, ← ea]; exact row_next (by omega) (by rw [HVL.out]; exact hj)
    rw [er, List.append_assoc, ← lK] at this
    rw [hw6, show ((c : Int) + j + 1) = ((c + j + 1 : Nat) : Int) by omega]
    exact this)
   have hsr6 := HB6.out.row (c + q) (by rw [List.length_append, wG, HC.out]; omega)
   rw [yK (by rw [HGL.out]; omega), HC.out, srow_get (by omega), ← HC.out, ← HS.out] at hsr6
   have cs6 := hsr6.1.nat a0 (by rw [nG]; exact ha0)
   have enx : (kmpN k c v q).getD a0 0 = c + oJ v (j + 1) := by
    have ea : v.getD j 0 = a0 := by rw [HV.out]; exact HL0.out
    rw [kmpN_get ha0, backK_next (by omega) (by rw [HVL.out]; exact hj), ← HQ.out, ea]
   rw [enx] at cs6
   obtain ⟨c60, c61, f61⟩ := HB6.out.cells
   rw [List.length_append, wG, ← HC.out] at c61
   obtain ⟨hq6, cap6, e6, e6', hc6, hm6, hd6⟩ := HB6.out.hd (by rw [List.length_append, wG]; omega)
   simp only [Option.some.injEq, Addr.mk.injEq, and_true] at e6
   have chd6 := hd6 (c + q) (by rw [List.length_append, wG, ← HC.out]; omega)
   have e1 : (gs ++ [g4]).getD (c + q) 0 = s := by rw [yK (by rw [HGL.out]; omega), ← HS.out]
   rw [e1] at chd6
   subst e6
   replace chd6 : w6.cell? ⟨hq4, c + q, none⟩ = some (.slice (some ⟨s, 0, none⟩) k k) := chd6
   obtain ⟨B, hB⟩ : ∃ B, B = c + oJ v (j + 1) := ⟨_, rfl⟩
   rw [← hB] at cs6
   have HBK := Kh hB
   have HW6 := Kh hw6
   clear hsr6 enx hd6 hm6 hw6 e6' hB e1
   go_wp2_with fail
   rw [← HW6.out]
   clear hcp c0 c1 f1 chd ca fa
   go_region
   all_goals (try go_frame)
   all_goals go_wp2
   all_goals
    go_roundg (u.size - 1 - j)
    case measure => have := HGH.out; omega
    case rel => exact ⟨j + 1, _, _, _, by have := HGH.out; omega, by go_num, by omega, by rw [HBK.out], HB6.out.grow (zP _ none)⟩
  ·have hju' : j = u.size := by have := HGH.out; omega
   have hj' : ¬ (j : Int) < u.size := by omega
   obtain ⟨c0, c1, f1⟩ := hbb.cells
   rw [HTL.out] at c1
   obtain ⟨hq4, cap4, rfl, rfl, hc4, hm4, hd4⟩ := hbb.hd (by rw [HTL.out]; omega)
   have chd := hd4 (c + q) (by rw [HTL.out]; omega)
   rw [HTL.out] at hc4
   obtain ⟨s, hs⟩ : ∃ s, s = gs.getD (c + q) 0 := ⟨_, rfl⟩
   rw [← hs] at chd
   replace chd : wr.cell? ⟨hq4, c + q, none⟩ = some (.slice (some ⟨s, 0, none⟩) k k) := chd
   have hcm : cn ≤ 9223372036854775807 := by unfold maxLen at hm4; omega
   have HB := Kh hbb; have HS := Kh hs; have HJU := Kh hju'
   clear hbb hd4 hm4 hs hju'
   go_wp2
   go_ret
   have hjv : j = v.length := by rw [HJU.out, HVL.out]
   refine ⟨gs, some ⟨hq4, 0, none⟩, cn, ?_, ?_⟩
   ·rw [← hjv, ← HQ.out, ← HC.out, ← HS.out]; rfl
   ·rw [← hjv, ← HC.out]; exact HB.out
def sufN (k c : Nat) (u : List Nat) : List (List Nat) := xZ k c u (u.length + 1)
theorem sufN_nil (k c : Nat) : sufN k c [] = [List.replicate k c] := by
 have e : kmpN k c [] 0 = List.replicate k c := by
  refine List.ext_getElem (by simp [kmpN]) fun i h1 h2 => ?_
  simp only [kmpN, List.getElem_map, List.getElem_range, List.getElem_replicate]
  rw [kmp_zero (.inl rfl)]; rfl
 show xZ k c [] 1 = _
 rw [← e]; rfl
set_option maxRecDepth 100000 in
set_option maxHeartbeats 800000 in
theorem bsuffix_any (W0 W : World) (bb k : Nat) (t : List (List Nat)) (gs : List Nat) (sn : Option Addr) (cn : Nat) (u : ByteArray) (h : BB W0 W bb k t gs sn cn) (ht : t.length ≤ 500) (hk1 : 1 ≤ k) (hk6 : k ≤ 6) (hu : zU u (k : Int) = true) (hl : u.size ≤ 64) :
  Calls Try.prog 109 #[.pointer (some ⟨bb, 0, none⟩), .string u] W (RowsLeft W0 bb k (t ++ sufN k t.length (zK u))) := by
 obtain ⟨c0, c1, f1⟩ := h.cells
 have H := Kh h
 obtain ⟨c, hc⟩ : ∃ c, c = t.length := ⟨_, rfl⟩
 rw [← hc] at c1 ht
 have HC := Kh hc
 clear h
 by_cases h0 : u.size = 0
 ·have hue : u = ⟨#[]⟩ := by
   have : u.data = #[] := Array.size_eq_zero_iff.1 h0
   cases u; simp_all
  subst hue
  have hle : zK (⟨#[]⟩ : ByteArray) = [] := rfl
  have HLE := Kh hle
  clear hu hl h0 hle hc
  go_enter Try.func109, Try.ntmps109
  go_wp2_with fail
  refine (qZ W0 W bb k t gs sn cn c H.out hk1 hk6 (by have := HC.out; omega)).mono ?_
  rintro e w1 ⟨g, sn1, cn1, rfl, hb1⟩
  go_wp2
  refine bodyPost_ret (v := .tuple #[]) (by simp [results, Try.results109, go_sem]) rfl ⟨gs ++ [g], sn1, cn1, rfl, ?_⟩
  rw [HLE.out, sufN_nil, ← HC.out]; exact hb1
 ·have hne : u.toList.isEmpty = false := by
   rw [ByteArray.toList_eq, List.isEmpty_eq_false_iff]
   intro e
   have := congrArg List.length e
   rw [Array.length_toList] at this
   exact h0 this
  have HSE := Kh (bsearch_any W0 W bb k t gs sn cn u H.out (by omega) hk1 hk6 hu (by omega) hl)
  obtain ⟨v, hv⟩ : ∃ v, v = zK u := ⟨_, rfl⟩
  have hvl : v.length = u.size := by rw [hv, yP]
  rw [← hv] at HSE ⊢
  have HV := Kh hv; have HVL := Kh hvl
  have hv0 : 0 < v.length := by omega
  clear hu hc hv hvl h0 c0 c1 f1
  go_enter Try.func109, Try.ntmps109
  go_wp2_with fail
  refine HSE.out.mono ?_
  rintro e w1 ⟨gs1, sn1, cn1, rfl, hb1⟩
  clear HSE H
  rw [← HC.out] at hb1 ⊢
  have htl : (t ++ xZ k c v v.length).length = c + v.length := by rw [List.length_append, wG, HC.out]
  have hbk := backK_lt hv0 (Nat.le_refl v.length)
  obtain ⟨q, hq⟩ : ∃ q, q = oJ v v.length := ⟨_, rfl⟩
  rw [← hq] at hbk ⊢
  have HQ := Kh hq; have HTL := Kh htl
  obtain ⟨s, hs⟩ : ∃ s, s = gs1.getD (c + q) 0 := ⟨_, rfl⟩
  have HS := Kh hs
  rw [← hs]
  clear hq htl hs
  go_wp2_with fail
  refine (qZ W0 w1 bb k _ gs1 sn1 cn1 0 hb1 hk1 hk6 (by rw [HTL.out, HVL.out]; omega)).mono ?_
  rintro e w2 ⟨g, sn2, cn2, rfl, hb2⟩
  have hgl : gs1.length = c + v.length := by rw [hb1.len, HTL.out]
  have e1 : (gs1 ++ [g]).getD (c + q) 0 = s := by rw [yK (by omega), ← HS.out]
  have hsr := hb2.row (c + q) (by rw [List.length_append, HTL.out]; omega)
  have e2 : ((t ++ xZ k c v v.length) ++ [List.replicate k 0]).getD (c + q) [] = kmpN k c v q := by
   rw [yK (by rw [HTL.out]; omega), HC.out, srow_get hbk]
  rw [e1, e2] at hsr
  obtain ⟨hcp, hca, hcg⟩ := copy_row hb2.last.1 hb2.last.2 hsr.1 hsr.2
  have hb3 := hb2.setLast hsr.2 hcg hca
  rw [HQ.out, row_last hv0, List.append_assoc, ← lK] at hb3
  rw [HQ.out, row_last hv0] at hcp
  have HB3 := Kh hb3
  clear hca hcg hsr e1 e2 hgl hb1 hb2 hb3
  go_wp2
  refine bodyPost_ret (v := .tuple #[]) (by simp [results, Try.results109, go_sem]) rfl ⟨gs1 ++ [g], sn2, cn2, rfl, by unfold sufN; rw [← HC.out]; exact HB3.out⟩
def midN (k : Nat) : Nat → List (List Nat) → List (List Nat)
 | _, [] => []
 | c, u :: us => xZ k c u u.length ++ midN k (c + u.length) us
theorem uZ (u : List Nat) (us : List (List Nat)) : yM (u :: us) = u.length + yM us := by simp [yM]
theorem lenSum_append (us vs : List (List Nat)) : yM (us ++ vs) = yM us + yM vs := by simp [yM]
theorem qP (k : Nat) : ∀ (us : List (List Nat)) (c : Nat), (midN k c us).length = yM us
 | [], c => rfl
 | u :: us, c => by rw [midN, List.length_append, wG, qP k us, uZ]
theorem midN_snoc (k : Nat) (u : List Nat) : ∀ (us : List (List Nat)) (c : Nat), midN k c (us ++ [u]) = midN k c us ++ xZ k (c + yM us) u u.length
 | [], c => by simp [midN, yM]
 | v :: us, c => by
  rw [List.cons_append, midN, midN, midN_snoc k u us, uZ, List.append_assoc, Nat.add_assoc]
theorem kmpRow_map (k c : Nat) (u : List Nat) (j : Nat) : zl (kmpN k c u j) = kmpRow k c u j := by simp [zl, kmpN, kmpRow]
theorem oK (k c : Nat) (u : List Nat) (m : Nat) : (xZ k c u m).map zl = xA k c u m := by
 simp only [xZ, xA, List.map_map]
 exact List.map_congr_left fun j _ => kmpRow_map k c u j
theorem tail_map (k : Nat) (v : List Nat) : ∀ (us : List (List Nat)) (c : Nat), (midN k c us ++ sufN k (c + yM us) v).map zl = xM k c (us ++ [v])
 | [], c => by
  show (sufN k (c + 0) v).map zl = _
  rw [sufN, oK]; rfl
 | u :: us, c => by
  have := tail_map k v us (c + u.length)
  rw [List.map_append] at this
  rw [midN, List.append_assoc, List.map_append, oK, uZ, ← Nat.add_assoc, List.map_append, this]
  cases us with
  | nil => rfl
  | cons w us => rfl
theorem jF (k : Nat) (b : List Nat) (m : Nat) : (rB k b m).map zl = uN k b m := by
 simp only [rB, uN, List.map_map]
 refine List.map_congr_left fun j _ => ?_
 simp [preN, preRow, zl]
def xT (k : Nat) (bs : List (List Nat)) : List (List Nat) := match bs with
 | [] => []
 | [b] => [List.replicate k 0] ++ rB k b b.length ++ [List.replicate k 0]
 | b :: us => [List.replicate k 0] ++ rB k b b.length ++ midN k (1 + b.length) us.dropLast ++ sufN k (1 + b.length + yM us.dropLast) (us.getLastD [])
theorem zl_zero (k : Nat) : zl (List.replicate k 0) = List.replicate k 0 := by simp [zl]
theorem pat_map (k : Nat) : ∀ (bs : List (List Nat)), (xT k bs).map zl = uP k bs
 | [] => rfl
 | [b] => by
  simp only [xT, uP, xM, List.map_append, jF, List.map_cons, List.map_nil, zl_zero]
  simp
 | b :: c :: us => by
  have h : (c :: us) = (c :: us).dropLast ++ [(c :: us).getLastD []] := by
   rw [List.getLastD_eq_getLast?, List.getLast?_eq_some_getLast (List.cons_ne_nil c us)]
   exact (List.dropLast_concat_getLast (List.cons_ne_nil c us)).symm
  have ht := tail_map k ((c :: us).getLastD []) (c :: us).dropLast (1 + b.length)
  rw [← h] at ht
  simp only [xT, uP, List.append_assoc]
  rw [List.map_append, List.map_append, ht, jF]
  simp [zl_zero]
theorem pI (k : Nat) (b : List Nat) (us : List (List Nat)) : (xT k (b :: us)).length = 2 + b.length + yM us := by
 have := congrArg List.length (pat_map k (b :: us))
 rwa [List.length_map, rS] at this
theorem tG (bs : List ByteArray) : sZ bs = yM (bs.map zK) := by
 simp only [sZ, yM, List.map_map]
 congr 1
 exact List.map_congr_left fun s _ => (yP s).symm
theorem rU (us : List (List Nat)) (i : Nat) : yM (us.take i) ≤ yM us := by
 have h : us.take i ++ us.drop i = us := List.take_append_drop i us
 have := lenSum_append (us.take i) (us.drop i)
 rw [h] at this
 omega
theorem pY {n : Nat} {letters : Int} : ∀ {bs : List ByteArray} {i : Nat}, wE n letters i bs = true → ∀ j (h : j < bs.length), vS n letters (i + j) bs[j] = true
 | [], _, _, j, h => by simp at h
 | u :: us, i, h, j, hj => by
  rw [wE, Bool.and_eq_true] at h
  cases j with
  | zero => exact h.1
  | succ j =>
   have := pY h.2 j (by simpa using hj)
   rw [show i + (j + 1) = i + 1 + j by omega]
   simpa using this
theorem lO {n i : Nat} {letters : Int} {u : ByteArray} (h : vS n letters i u = true) : zU u letters = true ∧ (0 < i → i + 1 < n → 0 < u.size) := by
 rw [vS, Bool.and_eq_true, Bool.not_eq_true', Bool.and_eq_false_iff] at h
 refine ⟨h.1, fun h0 h1 => ?_⟩
 rcases h.2 with h2 | h2
 ·rw [decide_eq_false_iff_not] at h2; exact absurd ⟨h0, h1⟩ h2
 ·rw [ByteArray.toList_eq, List.isEmpty_eq_false_iff] at h2
  have := List.length_pos_iff.2 h2
  rwa [Array.length_toList] at this
theorem patOk {bs : List ByteArray} {letters : Int} (h : yJ bs letters = 0) : 1 ≤ letters ∧ letters ≤ 6 ∧ 0 < bs.length ∧ bs.length ≤ 8 ∧ sZ bs ≤ 64 ∧ (∀ i (hi : i < bs.length), zU bs[i] letters = true) ∧ ∀ i (hi : i < bs.length), 0 < i → i + 1 < bs.length → 0 < bs[i].size := by
 obtain ⟨h1, h2, h3, h4, h5, h6⟩ := wD h
 refine ⟨h1, h2, h5, h3, h4, fun i hi => ?_, fun i hi h0 h1' => ?_⟩
 ·have := pY h6 i hi
  exact (lO this).1
 ·have := pY h6 i hi
  rw [Nat.zero_add] at this
  exact (lO this).2 h0 h1'
theorem pJ {k : Nat} {bs : List ByteArray} (h0 : 0 < bs.length) (ht : sZ bs ≤ 64) : 2 ≤ (xT k (bs.map zK)).length ∧ (xT k (bs.map zK)).length ≤ 66 := by
 match bs, h0 with
 | b :: rest, _ =>
  rw [tG, List.map_cons, uZ] at ht
  rw [List.map_cons, pI]
  omega
theorem total_get {bs : List ByteArray} {i : Nat} (hi : i < bs.length) : bs[i].size ≤ sZ bs := by
 have h := total_succ bs i hi
 have h2 : sZ (bs.take (i + 1)) ≤ sZ bs := by
  rw [tG, tG, List.map_take]
  exact rU _ _
 omega
end Go.Proofs.Ytjfdomfendbhfaa
