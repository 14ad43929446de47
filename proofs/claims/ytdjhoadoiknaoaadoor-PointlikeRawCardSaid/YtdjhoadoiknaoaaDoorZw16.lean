/- Part 16 of the proof: Valid. -/
import Derived.Test.YtdjhoadoiknaoaaDoorZw15
set_option linter.unusedVariables false
set_option linter.unusedSimpArgs false
namespace Go.Proofs.YtdjhoadoiknaoaaDoor
open Go.RowKit
theorem validate_any (B : Nat) (w : World) (v : Value) (t : List (List Int)) (hB : B ≤ w.heap.size) (h : Mat B w v t) :
    Calls Tryd.prog 51 #[v] w fun e w' => e = .returned (.int .i64 (validE t)) ∧ w.grownBy w' none := by
  by_cases hE : shapeE t = 0
  · have hs := shape_of hE
    have HS := Lib.hid hs; have HE := Lib.hid hE; have H := Lib.hid h
    clear hs hE h
    go_enter Tryd.func51, Tryd.ntmps51
    go_wp2_with fail
    refine (shape_any B w v t H.out).mono ?_
    rintro e w' ⟨rfl, rfl⟩
    rw [HE.out]
    go_wp2_with fail
    refine (spanning_any B w v t hB H.out HS.out).mono ?_
    rintro e w1 ⟨sa, sc, gs, rfl, hrow, hgl, hgen, hg1⟩
    have HR := Lib.hid hrow; have HGL := Lib.hid hgl; have HGEN := Lib.hid hgen
    have HM := Lib.hid ((H.out.kept hg1 (by simp)).mono (show B ≤ w1.heap.size by have := hg1.size; omega))
    clear hrow hgl hgen
    go_wp2_with fail
    refine (associates_any w1.heap.size w1 v _ t gs (Nat.le_refl _) HM.out HS.out HR.out HGL.out).mono ?_
    rintro e w2 ⟨rfl, hg2⟩
    have hg := grownBy_trans' hg1 hg2
    cases hb : lightB t gs
    · have hv : validE t = 5 := validE_not HE.out (fun ha => by
        rw [lightB_true (fun g hg => ha g (HGL.out g hg))] at hb; cases hb)
      have HV := Lib.hid hv
      clear hb hv
      go_wp2
      go_ret
      exact ⟨ret_int HV.out.symm, hg⟩
    · have hv : validE t = 0 := validE_assoc HE.out (assoc_of_light HS.out HGEN.out (fun g hg => ⟨HGL.out g hg, by
        have : LightAll t gs := by simpa [lightB] using hb
        exact this g hg⟩))
      have HV := Lib.hid hv
      clear hb hv
      go_wp2
      go_ret
      exact ⟨ret_int HV.out.symm, hg⟩
  · have hb : (shapeE t != 0) = true := by rw [bne_iff_ne]; exact hE
    have HE := Lib.hid hE; clear hE
    go_enter Tryd.func51, Tryd.ntmps51
    go_wp2_with fail
    refine (shape_any B w v t h).mono ?_
    rintro e w' ⟨rfl, rfl⟩
    go_wp2
    go_ret
    exact ⟨ret_int (validE_shape HE.out).symm, grownBy_refl _ _⟩
theorem valid_any (B : Nat) (w : World) (v : Value) (t : List (List Int)) (hB : B ≤ w.heap.size) (h : Mat B w v t) :
    Calls Tryd.prog 96 #[v] w fun e w' => e = .returned (.bool (validE t == 0)) ∧ w.grownBy w' none := by
  go_enter Tryd.func96, Tryd.ntmps96
  go_wp2_with fail
  refine (validate_any B w v t hB h).mono ?_
  rintro e w1 ⟨rfl, hg⟩
  go_wp2
  go_ret
  exact ⟨rfl, hg⟩
theorem range_step (n k : Nat) (hk : k < n) : (List.range k ++ List.replicate (n - k) 0).set k k = List.range (k + 1) ++ List.replicate (n - (k + 1)) 0 := by
  rw [List.set_append_right _ _ (by simp), List.length_range, Nat.sub_self, List.range_succ, List.append_assoc]
  congr 1
  rw [show n - k = n - (k + 1) + 1 by omega, List.replicate_succ, List.set_cons_zero]
  rfl
set_option maxHeartbeats 400000 in
theorem elements_any (w : World) (a : Option Addr) (n cap : Nat) (hn : n ≤ 400) :
    Calls Tryd.prog 98 #[.slice a n cap] w fun e w' => e = .returned (.slice (some ⟨w.heap.size, 0, none⟩) n n) ∧ Arr w' w.heap.size 3 (nats (List.range n)) ∧ w.grownBy w' none := by
  go_enter Tryd.func98, Tryd.ntmps98
  go_wp2_with (at_make; refine make1 rfl _ _ _ rfl elem_int rfl _ _ _ _ n rfl rfl rfl rfl ?b1 ?b2 ?_; (case b1 => omega); (case b2 => (unfold maxLen; omega)); intro w1 ha1 hg1 hz1)
  rw [← nats_replicate] at ha1
  have HA := Lib.hid ha1; clear ha1
  go_loopg [10] n (fun g i wr => ∃ k : Nat, g + k = n ∧ i = .int .i64 k ∧ Arr wr w.heap.size 3 (nats (List.range k ++ List.replicate (n - k) 0)) ∧ w.grownBy wr none)
  case atStart => exact ⟨0, rfl, rfl, by simpa using HA.out, hg1⟩
  case round =>
    clear HA hg1 hz1
    obtain ⟨k, hg, rfl, harr, hgr⟩ := hrel
    have HG := Lib.hid hg; clear hg
    by_cases hk : k < n
    · have hk' : (k : Int) < n := by omega
      have hlen : (List.range k ++ List.replicate (n - k) 0).length = n := by simp; omega
      have ck := harr.nat k (by rw [hlen]; exact hk)
      have fk := harr.frozen k
      have hst := harr.nat_set k (by rw [hlen]; exact hk) k
      rw [range_step n k hk] at hst
      have HST := Lib.hid hst
      clear hst hlen harr
      go_wp2
      go_roundg (n - (k + 1))
      case measure => have := HG.out; omega
      case rel => exact ⟨k + 1, by omega, by go_num, HST.out, grown_far hgr (grownBy_setCell _ _ _) (by simp)⟩
    · have hk2 : k = n := by have := HG.out; omega
      have HK2 := Lib.hid hk2
      have HARR := Lib.hid harr
      clear harr hk2
      go_wp2
      go_ret
      refine ⟨rfl, ?_, hgr⟩
      have := HARR.out
      rw [HK2.out, Nat.sub_self, List.replicate_zero, List.append_nil] at this
      exact this
theorem isId_bad {t : List (List Int)} {e x : Nat} (hx : x < t.length) (h : idAt t e x = false) : isId t e = false := by
  rw [← Bool.not_eq_true, isId, List.all_eq_true]
  intro ha
  rw [ha x (List.mem_range.2 hx)] at h; cases h
def IdTo (t : List (List Int)) (e k : Nat) : Prop := ∀ x, x < k → idAt t e x = true
theorem isId_good {t : List (List Int)} {e : Nat} (h : IdTo t e t.length) : isId t e = true := by
  rw [isId, List.all_eq_true]; intro x hx; exact h x (List.mem_range.1 hx)
set_option maxRecDepth 100000 in
set_option maxHeartbeats 800000 in
theorem isid_any (B : Nat) (w : World) (pb b off cap : Nat) (RB RO RC : Nat → Nat) (t : List (List Int)) (e : Nat) (hq : Sq B w t b off RB RO RC) (hmx : cap ≤ 9223372036854775807) (hc : t.length ≤ cap) (he : e < t.length)
    (hp : w.cell? ⟨pb, 0, none⟩ = some (.slice (some ⟨b, off, none⟩) t.length cap)) :
    Calls Tryd.prog 99 #[.int .i64 (e : Int), .pointer (some ⟨pb, 0, none⟩)] w fun r w' => r = .returned (.bool (isId t e)) ∧ ∃ m, w' = w.drewN m := by
  have HQ := Lib.hid hq; clear hq
  have he' : (e : Int) < t.length := by omega
  have ce := HQ.out.hd e he
  go_enter Tryd.func99, Tryd.ntmps99
  go_wp2
  go_loopg [7] t.length (fun g i wr => ∃ k m : Nat, g + k = t.length ∧ i = .int .i64 k ∧ IdTo t e k ∧ wr = w.drewN m)
  case atStart => exact ⟨0, 0, rfl, rfl, fun x hx => absurd hx (by omega), rfl⟩
  case round =>
    obtain ⟨x, m, hg, rfl, hok, rfl⟩ := hrel
    have HG := Lib.hid hg; have OK := Lib.hid hok; clear hg hok
    by_cases hx : x < t.length
    · have hx' : (x : Int) < t.length := by omega
      have cx := HQ.out.hd x hx
      have cex := HQ.out.el e x he hx
      have cxe := HQ.out.el x e hx he
      obtain ⟨p, hp1⟩ : ∃ p, p = entN t e x := ⟨_, rfl⟩
      obtain ⟨q, hq1⟩ : ∃ q, q = entN t x e := ⟨_, rfl⟩
      rw [← hp1] at cex
      rw [← hq1] at cxe
      have HI : Hid (idAt t e x = (p == x && q == x)) := by rw [hp1, hq1]; exact Lib.hid rfl
      clear hp1 hq1
      by_cases h1 : p = x
      · have e1 : ((p : Int) != (x : Int)) = false := by rw [h1]; simp
        by_cases h2 : q = x
        · have e2 : ((q : Int) != (x : Int)) = false := by rw [h2]; simp
          have H1 := Lib.hid h1; have H2 := Lib.hid h2; clear h1 h2
          go_wp2
          first | (go_quiet (fail); go_wp2) | skip
          go_roundg (t.length - (x + 1))
          case measure => have := HG.out; omega
          case rel =>
            refine ⟨x + 1, _, by omega, by go_num, fun y hy => ?_, rfl⟩
            rcases Nat.lt_succ_iff_lt_or_eq.1 hy with hy | rfl
            · exact OK.out y hy
            · rw [HI.out, H1.out, H2.out]; simp
        · have e2 : ((q : Int) != (x : Int)) = true := by rw [bne_iff_ne]; omega
          have H1 := Lib.hid h1; have H2 := Lib.hid h2; clear h1 h2
          go_wp2
          first | (go_quiet (fail); go_wp2) | skip
          go_ret
          exact ⟨ret_bool (isId_bad hx (by rw [HI.out]; simp [H2.out])).symm, _, rfl⟩
      · have e1 : ((p : Int) != (x : Int)) = true := by rw [bne_iff_ne]; omega
        have H1 := Lib.hid h1; clear h1
        go_wp2
        first | (go_quiet (fail); go_wp2) | skip
        go_ret
        exact ⟨ret_bool (isId_bad hx (by rw [HI.out]; simp [H1.out])).symm, _, rfl⟩
    · have hk2 : x = t.length := by have := HG.out; omega
      have HK2 := Lib.hid hk2; clear hk2
      go_wp2
      go_ret
      exact ⟨ret_bool (isId_good (by rw [← HK2.out]; exact OK.out)).symm, _, rfl⟩
set_option maxRecDepth 100000 in
theorem indexFunc_any (B : Nat) (w : World) (pb g b off cap : Nat) (RB RO RC : Nat → Nat) (t : List (List Int)) (hq : Sq B w t b off RB RO RC) (hmx : cap ≤ 9223372036854775807) (hc : t.length ≤ cap) (hp : w.cell? ⟨pb, 0, none⟩ = some (.slice (some ⟨b, off, none⟩) t.length cap))
    (ha : Arr w g 3 (nats (List.range t.length))) :
    Calls Tryd.prog 97 #[.slice (some ⟨g, 0, none⟩) t.length t.length, .func (.func 99) #[] #[.pointer (some ⟨pb, 0, none⟩)]] w fun e w' => e = .returned (.int .i64 (identI t)) ∧ ∃ m, w' = w.drewN m := by
  have HQ := Lib.hid hq; have HA := Lib.hid ha; clear hq ha
  go_enter Tryd.func97, Tryd.ntmps97
  go_wp2
  go_loopg [8] t.length (fun g i wr => ∃ k m : Nat, g + k = t.length ∧ i = .int .i64 k ∧ NoId t k ∧ wr = w.drewN m)
  case atStart => exact ⟨0, 0, rfl, rfl, fun x hx => absurd hx (by omega), rfl⟩
  case round =>
    obtain ⟨x, m, hg, rfl, hok, rfl⟩ := hrel
    have HG := Lib.hid hg; have OK := Lib.hid hok; clear hg hok
    by_cases hx : x < t.length
    · have hx' : (x : Int) < t.length := by omega
      have cx := HA.out.nat x (by simpa using hx)
      rw [show (List.range t.length).getD x 0 = x by simp [List.getD, hx]] at cx
      go_wp2_with fail
      refine (isid_any B (w.drewN m) pb b off cap RB RO RC t x (HQ.out.kept (grownBy_drewN _ _ none) (by simp)) hmx hc hx hp).mono ?_
      rintro e w2 ⟨rfl, m2, rfl⟩
      cases hI : isId t x
      · have HI := Lib.hid hI; clear hI
        go_wp2
        go_roundg (t.length - (x + 1))
        case measure => have := HG.out; omega
        case rel =>
          refine ⟨x + 1, m + m2, by omega, by go_num, fun y hy => ?_, rfl⟩
          rcases Nat.lt_succ_iff_lt_or_eq.1 hy with hy | rfl
          · exact OK.out y hy
          · exact HI.out
      · have HI := Lib.hid hI; clear hI
        go_wp2
        go_ret
        exact ⟨ret_int (identI_some hx HI.out OK.out).symm, m + m2, rfl⟩
    · go_wp2
      go_ret
      exact ⟨ret_int (identI_none (fun x' hx' => OK.out x' (by omega))).symm, m, rfl⟩
noncomputable def identE (t : List (List Int)) : Int := if validE t = 0 then identI t else -1
theorem identE_valid {t : List (List Int)} (h : validE t = 0) : identE t = identI t := by rw [identE, if_pos h]
theorem identE_not {t : List (List Int)} (h : ¬ validE t = 0) : identE t = -1 := by rw [identE, if_neg h]
set_option maxRecDepth 100000 in
theorem identity_any (B : Nat) (w : World) (v : Value) (t : List (List Int)) (hB : B ≤ w.heap.size) (h : Mat B w v t) :
    Calls Tryd.prog 71 #[v] w fun e w' => e = .returned (.int .i64 (identE t)) ∧ w.grownBy w' none := by
  have g0 := World.grownBy_alloc w (.cells #[v] 26) none
  have h0 := h.kept g0 (by simp)
  have hbox := heap_alloc_new w (.cells #[v] 26)
  have HB := Lib.hid hbox; have H0 := Lib.hid h0
  clear hbox h0
  have hB0 : B ≤ (w.alloc (.cells #[v] 26)).heap.size := by rw [alloc_size]; omega
  by_cases hv : validE t = 0
  · have hb : (validE t == 0) = true := by simp [hv]
    have HV := Lib.hid hv; clear hv
    obtain ⟨b, off, cap, RB, RO, RC, rfl, hc1, hc2, hq⟩ := h.sq (valid_of HV.out).1
    have hmx : cap ≤ 9223372036854775807 := by unfold maxLen at hc2; omega
    have hpos := (valid_of HV.out).1.pos
    have hle := (valid_of HV.out).1.le
    have HQ := Lib.hid hq; clear hq h hc2
    go_enter Tryd.func71, Tryd.ntmps71
    go_wp2_with fail
    refine (valid_any B _ _ t hB0 H0.out).mono ?_
    rintro e w1 ⟨rfl, hg1⟩
    have c1 := cell_block (block_kept HB.out hg1 (by simp)) 0 (by simp)
    simp only [List.getElem_toArray, List.getElem_cons_zero] at c1
    have gw1 := grownBy_trans' g0 hg1
    go_wp2_with fail
    refine (elements_any w1 _ _ _ hle).mono ?_
    rintro e w2 ⟨rfl, ha2, hg2⟩
    have c2 := cell_block (block_kept (block_kept HB.out hg1 (by simp)) hg2 (by simp)) 0 (by simp)
    simp only [List.getElem_toArray, List.getElem_cons_zero] at c2
    have gw2 := grownBy_trans' gw1 hg2
    have HQ2 := Lib.hid (HQ.out.kept gw2 (by simp))
    have HA2 := Lib.hid ha2
    clear ha2 hg1 hg2 c1
    go_wp2_with fail
    refine (indexFunc_any B w2 w.heap.size w1.heap.size b off cap RB RO RC t HQ2.out hmx hc1 c2 HA2.out).mono ?_
    rintro e w3 ⟨rfl, m, rfl⟩
    go_wp2
    go_ret
    exact ⟨ret_int (identE_valid HV.out).symm, grownBy_trans' gw2 (grownBy_drewN _ _ _)⟩
  · have hb : (validE t == 0) = false := by rw [beq_eq_false_iff_ne]; exact hv
    have HV := Lib.hid hv; clear hv
    obtain ⟨sa, sc, rfl⟩ := h.shape
    clear h
    go_enter Tryd.func71, Tryd.ntmps71
    go_wp2_with fail
    refine (valid_any B _ _ t hB0 H0.out).mono ?_
    rintro e w1 ⟨rfl, hg1⟩
    go_wp2
    go_ret
    exact ⟨ret_int (identE_not HV.out).symm, grownBy_trans' g0 hg1⟩
end Go.Proofs.YtdjhoadoiknaoaaDoor
