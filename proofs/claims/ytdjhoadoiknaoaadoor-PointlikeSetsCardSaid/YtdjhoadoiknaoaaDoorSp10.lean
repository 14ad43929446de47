/- Part 10 of the proof: Valid, Prod. -/
import Derived.Test.YtdjhoadoiknaoaaDoorSp9
set_option linter.unusedVariables false
set_option linter.unusedSimpArgs false
namespace Go.Proofs.YtdjhoadoiknaoaaDoor
open Go.RowKit
theorem validate_any (B : Nat) (w : World) (v : Value) (t : List (List Int)) (hB : B ≤ w.heap.size) (h : Mat B w v t) :
    Calls Tryd.prog 51 #[v] w fun e w' => e = .returned (.int .i64 (validE t)) ∧ w.grownBy w' none := by
  by_cases hE : shapeE t = 0
  · have hs := shape_of hE
    have HS := Lib.hid hs; have HE := Lib.hid hE; have H := Lib.hid h
    clear hs hE h
    go_enter Tryd.func51, Tryd.ntmps51
    go_wp2_with fail
    refine (shape_any B w v t H.out).mono ?_
    rintro e w' ⟨rfl, rfl⟩
    rw [HE.out]
    go_wp2_with fail
    refine (spanning_any B w v t hB H.out HS.out).mono ?_
    rintro e w1 ⟨sa, sc, gs, rfl, hrow, hgl, hgen, hg1⟩
    have HR := Lib.hid hrow; have HGL := Lib.hid hgl; have HGEN := Lib.hid hgen
    have HM := Lib.hid ((H.out.kept hg1 (by simp)).mono (show B ≤ w1.heap.size by have := hg1.size; omega))
    clear hrow hgl hgen
    go_wp2_with fail
    refine (associates_any w1.heap.size w1 v _ t gs (Nat.le_refl _) HM.out HS.out HR.out HGL.out).mono ?_
    rintro e w2 ⟨rfl, hg2⟩
    have hg := grownBy_trans' hg1 hg2
    cases hb : lightB t gs
    · have hv : validE t = 5 := validE_not HE.out (fun ha => by
        rw [lightB_true (fun g hg => ha g (HGL.out g hg))] at hb; cases hb)
      have HV := Lib.hid hv
      clear hb hv
      go_wp2
      go_ret
      exact ⟨ret_int HV.out.symm, hg⟩
    · have hv : validE t = 0 := validE_assoc HE.out (assoc_of_light HS.out HGEN.out (fun g hg => ⟨HGL.out g hg, by
        have : LightAll t gs := by simpa [lightB] using hb
        exact this g hg⟩))
      have HV := Lib.hid hv
      clear hb hv
      go_wp2
      go_ret
      exact ⟨ret_int HV.out.symm, hg⟩
  · have hb : (shapeE t != 0) = true := by rw [bne_iff_ne]; exact hE
    have HE := Lib.hid hE; clear hE
    go_enter Tryd.func51, Tryd.ntmps51
    go_wp2_with fail
    refine (shape_any B w v t h).mono ?_
    rintro e w' ⟨rfl, rfl⟩
    go_wp2
    go_ret
    exact ⟨ret_int (validE_shape HE.out).symm, grownBy_refl _ _⟩
theorem valid_any (B : Nat) (w : World) (v : Value) (t : List (List Int)) (hB : B ≤ w.heap.size) (h : Mat B w v t) :
    Calls Tryd.prog 96 #[v] w fun e w' => e = .returned (.bool (validE t == 0)) ∧ w.grownBy w' none := by
  go_enter Tryd.func96, Tryd.ntmps96
  go_wp2_with fail
  refine (validate_any B w v t hB h).mono ?_
  rintro e w1 ⟨rfl, hg⟩
  go_wp2
  go_ret
  exact ⟨rfl, hg⟩
theorem range_step (n k : Nat) (hk : k < n) : (List.range k ++ List.replicate (n - k) 0).set k k = List.range (k + 1) ++ List.replicate (n - (k + 1)) 0 := by
  rw [List.set_append_right _ _ (by simp), List.length_range, Nat.sub_self, List.range_succ, List.append_assoc]
  congr 1
  rw [show n - k = n - (k + 1) + 1 by omega, List.replicate_succ, List.set_cons_zero]
  rfl
set_option maxHeartbeats 400000 in
theorem elements_any (w : World) (a : Option Addr) (n cap : Nat) (hn : n ≤ 400) :
    Calls Tryd.prog 98 #[.slice a n cap] w fun e w' => e = .returned (.slice (some ⟨w.heap.size, 0, none⟩) n n) ∧ Arr w' w.heap.size 3 (nats (List.range n)) ∧ w.grownBy w' none := by
  go_enter Tryd.func98, Tryd.ntmps98
  go_wp2_with (at_make; refine make1 rfl _ _ _ rfl elem_int rfl _ _ _ _ n rfl rfl rfl rfl ?b1 ?b2 ?_; (case b1 => omega); (case b2 => (unfold maxLen; omega)); intro w1 ha1 hg1 hz1)
  rw [← nats_replicate] at ha1
  have HA := Lib.hid ha1; clear ha1
  go_loopg [10] n (fun g i wr => ∃ k : Nat, g + k = n ∧ i = .int .i64 k ∧ Arr wr w.heap.size 3 (nats (List.range k ++ List.replicate (n - k) 0)) ∧ w.grownBy wr none)
  case atStart => exact ⟨0, rfl, rfl, by simpa using HA.out, hg1⟩
  case round =>
    clear HA hg1 hz1
    obtain ⟨k, hg, rfl, harr, hgr⟩ := hrel
    have HG := Lib.hid hg; clear hg
    by_cases hk : k < n
    · have hk' : (k : Int) < n := by omega
      have hlen : (List.range k ++ List.replicate (n - k) 0).length = n := by simp; omega
      have ck := harr.nat k (by rw [hlen]; exact hk)
      have fk := harr.frozen k
      have hst := harr.nat_set k (by rw [hlen]; exact hk) k
      rw [range_step n k hk] at hst
      have HST := Lib.hid hst
      clear hst hlen harr
      go_wp2
      go_roundg (n - (k + 1))
      case measure => have := HG.out; omega
      case rel => exact ⟨k + 1, by omega, by go_num, HST.out, grown_far hgr (grownBy_setCell _ _ _) (by simp)⟩
    · have hk2 : k = n := by have := HG.out; omega
      have HK2 := Lib.hid hk2
      have HARR := Lib.hid harr
      clear harr hk2
      go_wp2
      go_ret
      refine ⟨rfl, ?_, hgr⟩
      have := HARR.out
      rw [HK2.out, Nat.sub_self, List.replicate_zero, List.append_nil] at this
      exact this
theorem isId_bad {t : List (List Int)} {e x : Nat} (hx : x < t.length) (h : idAt t e x = false) : isId t e = false := by
  rw [← Bool.not_eq_true, isId, List.all_eq_true]
  intro ha
  rw [ha x (List.mem_range.2 hx)] at h; cases h
def IdTo (t : List (List Int)) (e k : Nat) : Prop := ∀ x, x < k → idAt t e x = true
theorem isId_good {t : List (List Int)} {e : Nat} (h : IdTo t e t.length) : isId t e = true := by
  rw [isId, List.all_eq_true]; intro x hx; exact h x (List.mem_range.1 hx)
set_option maxRecDepth 100000 in
set_option maxHeartbeats 800000 in
theorem isid_any (B : Nat) (w : World) (pb b off cap : Nat) (RB RO RC : Nat → Nat) (t : List (List Int)) (e : Nat) (hq : Sq B w t b off RB RO RC) (hmx : cap ≤ 9223372036854775807) (hc : t.length ≤ cap) (he : e < t.length)
    (hp : w.cell? ⟨pb, 0, none⟩ = some (.slice (some ⟨b, off, none⟩) t.length cap)) :
    Calls Tryd.prog 99 #[.int .i64 (e : Int), .pointer (some ⟨pb, 0, none⟩)] w fun r w' => r = .returned (.bool (isId t e)) ∧ ∃ m, w' = w.drewN m := by
  have HQ := Lib.hid hq; clear hq
  have he' : (e : Int) < t.length := by omega
  have ce := HQ.out.hd e he
  go_enter Tryd.func99, Tryd.ntmps99
  go_wp2
  go_loopg [7] t.length (fun g i wr => ∃ k m : Nat, g + k = t.length ∧ i = .int .i64 k ∧ IdTo t e k ∧ wr = w.drewN m)
  case atStart => exact ⟨0, 0, rfl, rfl, fun x hx => absurd hx (by omega), rfl⟩
  case round =>
    obtain ⟨x, m, hg, rfl, hok, rfl⟩ := hrel
    have HG := Lib.hid hg; have OK := Lib.hid hok; clear hg hok
    by_cases hx : x < t.length
    · have hx' : (x : Int) < t.length := by omega
      have cx := HQ.out.hd x hx
      have cex := HQ.out.el e x he hx
      have cxe := HQ.out.el x e hx he
      obtain ⟨p, hp1⟩ : ∃ p, p = entN t e x := ⟨_, rfl⟩
      obtain ⟨q, hq1⟩ : ∃ q, q = entN t x e := ⟨_, rfl⟩
      rw [← hp1] at cex
      rw [← hq1] at cxe
      have HI : Hid (idAt t e x = (p == x && q == x)) := by rw [hp1, hq1]; exact Lib.hid rfl
      clear hp1 hq1
      by_cases h1 : p = x
      · have e1 : ((p : Int) != (x : Int)) = false := by rw [h1]; simp
        by_cases h2 : q = x
        · have e2 : ((q : Int) != (x : Int)) = false := by rw [h2]; simp
          have H1 := Lib.hid h1; have H2 := Lib.hid h2; clear h1 h2
          go_wp2
          first | (go_quiet (fail); go_wp2) | skip
          go_roundg (t.length - (x + 1))
          case measure => have := HG.out; omega
          case rel =>
            refine ⟨x + 1, _, by omega, by go_num, fun y hy => ?_, rfl⟩
            rcases Nat.lt_succ_iff_lt_or_eq.1 hy with hy | rfl
            · exact OK.out y hy
            · rw [HI.out, H1.out, H2.out]; simp
        · have e2 : ((q : Int) != (x : Int)) = true := by rw [bne_iff_ne]; omega
          have H1 := Lib.hid h1; have H2 := Lib.hid h2; clear h1 h2
          go_wp2
          first | (go_quiet (fail); go_wp2) | skip
          go_ret
          exact ⟨ret_bool (isId_bad hx (by rw [HI.out]; simp [H2.out])).symm, _, rfl⟩
      · have e1 : ((p : Int) != (x : Int)) = true := by rw [bne_iff_ne]; omega
        have H1 := Lib.hid h1; clear h1
        go_wp2
        first | (go_quiet (fail); go_wp2) | skip
        go_ret
        exact ⟨ret_bool (isId_bad hx (by rw [HI.out]; simp [H1.out])).symm, _, rfl⟩
    · have hk2 : x = t.length := by have := HG.out; omega
      have HK2 := Lib.hid hk2; clear hk2
      go_wp2
      go_ret
      exact ⟨ret_bool (isId_good (by rw [← HK2.out]; exact OK.out)).symm, _, rfl⟩
set_option maxRecDepth 100000 in
theorem indexFunc_any (B : Nat) (w : World) (pb g b off cap : Nat) (RB RO RC : Nat → Nat) (t : List (List Int)) (hq : Sq B w t b off RB RO RC) (hmx : cap ≤ 9223372036854775807) (hc : t.length ≤ cap) (hp : w.cell? ⟨pb, 0, none⟩ = some (.slice (some ⟨b, off, none⟩) t.length cap))
    (ha : Arr w g 3 (nats (List.range t.length))) :
    Calls Tryd.prog 97 #[.slice (some ⟨g, 0, none⟩) t.length t.length, .func (.func 99) #[] #[.pointer (some ⟨pb, 0, none⟩)]] w fun e w' => e = .returned (.int .i64 (identI t)) ∧ ∃ m, w' = w.drewN m := by
  have HQ := Lib.hid hq; have HA := Lib.hid ha; clear hq ha
  go_enter Tryd.func97, Tryd.ntmps97
  go_wp2
  go_loopg [8] t.length (fun g i wr => ∃ k m : Nat, g + k = t.length ∧ i = .int .i64 k ∧ NoId t k ∧ wr = w.drewN m)
  case atStart => exact ⟨0, 0, rfl, rfl, fun x hx => absurd hx (by omega), rfl⟩
  case round =>
    obtain ⟨x, m, hg, rfl, hok, rfl⟩ := hrel
    have HG := Lib.hid hg; have OK := Lib.hid hok; clear hg hok
    by_cases hx : x < t.length
    · have hx' : (x : Int) < t.length := by omega
      have cx := HA.out.nat x (by simpa using hx)
      rw [show (List.range t.length).getD x 0 = x by simp [List.getD, hx]] at cx
      go_wp2_with fail
      refine (isid_any B (w.drewN m) pb b off cap RB RO RC t x (HQ.out.kept (grownBy_drewN _ _ none) (by simp)) hmx hc hx hp).mono ?_
      rintro e w2 ⟨rfl, m2, rfl⟩
      cases hI : isId t x
      · have HI := Lib.hid hI; clear hI
        go_wp2
        go_roundg (t.length - (x + 1))
        case measure => have := HG.out; omega
        case rel =>
          refine ⟨x + 1, m + m2, by omega, by go_num, fun y hy => ?_, rfl⟩
          rcases Nat.lt_succ_iff_lt_or_eq.1 hy with hy | rfl
          · exact OK.out y hy
          · exact HI.out
      · have HI := Lib.hid hI; clear hI
        go_wp2
        go_ret
        exact ⟨ret_int (identI_some hx HI.out OK.out).symm, m + m2, rfl⟩
    · go_wp2
      go_ret
      exact ⟨ret_int (identI_none (fun x' hx' => OK.out x' (by omega))).symm, m, rfl⟩
noncomputable def identE (t : List (List Int)) : Int := if validE t = 0 then identI t else -1
theorem identE_valid {t : List (List Int)} (h : validE t = 0) : identE t = identI t := by rw [identE, if_pos h]
theorem identE_not {t : List (List Int)} (h : ¬ validE t = 0) : identE t = -1 := by rw [identE, if_neg h]
set_option maxRecDepth 100000 in
theorem identity_any (B : Nat) (w : World) (v : Value) (t : List (List Int)) (hB : B ≤ w.heap.size) (h : Mat B w v t) :
    Calls Tryd.prog 71 #[v] w fun e w' => e = .returned (.int .i64 (identE t)) ∧ w.grownBy w' none := by
  have g0 := World.grownBy_alloc w (.cells #[v] 26) none
  have h0 := h.kept g0 (by simp)
  have hbox := heap_alloc_new w (.cells #[v] 26)
  have HB := Lib.hid hbox; have H0 := Lib.hid h0
  clear hbox h0
  have hB0 : B ≤ (w.alloc (.cells #[v] 26)).heap.size := by rw [alloc_size]; omega
  by_cases hv : validE t = 0
  · have hb : (validE t == 0) = true := by simp [hv]
    have HV := Lib.hid hv; clear hv
    obtain ⟨b, off, cap, RB, RO, RC, rfl, hc1, hc2, hq⟩ := h.sq (valid_of HV.out).1
    have hmx : cap ≤ 9223372036854775807 := by unfold maxLen at hc2; omega
    have hpos := (valid_of HV.out).1.pos
    have hle := (valid_of HV.out).1.le
    have HQ := Lib.hid hq; clear hq h hc2
    go_enter Tryd.func71, Tryd.ntmps71
    go_wp2_with fail
    refine (valid_any B _ _ t hB0 H0.out).mono ?_
    rintro e w1 ⟨rfl, hg1⟩
    have c1 := cell_block (block_kept HB.out hg1 (by simp)) 0 (by simp)
    simp only [List.getElem_toArray, List.getElem_cons_zero] at c1
    have gw1 := grownBy_trans' g0 hg1
    go_wp2_with fail
    refine (elements_any w1 _ _ _ hle).mono ?_
    rintro e w2 ⟨rfl, ha2, hg2⟩
    have c2 := cell_block (block_kept (block_kept HB.out hg1 (by simp)) hg2 (by simp)) 0 (by simp)
    simp only [List.getElem_toArray, List.getElem_cons_zero] at c2
    have gw2 := grownBy_trans' gw1 hg2
    have HQ2 := Lib.hid (HQ.out.kept gw2 (by simp))
    have HA2 := Lib.hid ha2
    clear ha2 hg1 hg2 c1
    go_wp2_with fail
    refine (indexFunc_any B w2 w.heap.size w1.heap.size b off cap RB RO RC t HQ2.out hmx hc1 c2 HA2.out).mono ?_
    rintro e w3 ⟨rfl, m, rfl⟩
    go_wp2
    go_ret
    exact ⟨ret_int (identE_valid HV.out).symm, grownBy_trans' gw2 (grownBy_drewN _ _ _)⟩
  · have hb : (validE t == 0) = false := by rw [beq_eq_false_iff_ne]; exact hv
    have HV := Lib.hid hv; clear hv
    obtain ⟨sa, sc, rfl⟩ := h.shape
    clear h
    go_enter Tryd.func71, Tryd.ntmps71
    go_wp2_with fail
    refine (valid_any B _ _ t hB0 H0.out).mono ?_
    rintro e w1 ⟨rfl, hg1⟩
    go_wp2
    go_ret
    exact ⟨ret_int (identE_not HV.out).symm, grownBy_trans' g0 hg1⟩
end Go.Proofs.YtdjhoadoiknaoaaDoor

namespace Go.Proofs.YtdjhoadoiknaoaaDoor
open Go.RowKit
noncomputable def mayB (t : List (List Int)) (zs : List Int) : Bool := (validE t == 0) && decide (t.length ≤ 12) && zs.all (setB t.length)
noncomputable def prodP (t : List (List Int)) (a b : Int) : Int := if mayB t [a, b] = true then (prodSet t.length (entN t) a.toNat b.toNat : Nat) else 0
noncomputable def omegaP (t : List (List Int)) (a : Int) : Int := if mayB t [a] = true then (omegaSet t.length (entN t) a.toNat : Nat) else 0
theorem mayB_two {t : List (List Int)} {a b : Int} : mayB t [a, b] = true ↔ validE t = 0 ∧ t.length ≤ 12 ∧ setB t.length a = true ∧ setB t.length b = true := by
  simp [mayB, and_assoc]
theorem mayB_one {t : List (List Int)} {a : Int} : mayB t [a] = true ↔ validE t = 0 ∧ t.length ≤ 12 ∧ setB t.length a = true := by
  simp [mayB, and_assoc]
theorem setB_true {n : Nat} {s : Int} (h : setB n s = true) : ∃ a : Nat, s = a ∧ a < 2 ^ n := by
  simp only [setB, decide_eq_true_eq] at h
  exact ⟨s.toNat, by omega, by omega⟩
theorem prodP_no {t : List (List Int)} {a b : Int} (h : ¬ mayB t [a, b] = true) : prodP t a b = 0 := by rw [prodP, if_neg h]
theorem prodP_yes {t : List (List Int)} {a b : Nat} (h : mayB t [(a : Int), (b : Int)] = true) : prodP t a b = (prodSet t.length (entN t) a b : Nat) := by rw [prodP, if_pos h]; rfl
theorem omegaP_no {t : List (List Int)} {a : Int} (h : ¬ mayB t [a] = true) : omegaP t a = 0 := by rw [omegaP, if_neg h]
theorem omegaP_yes {t : List (List Int)} {a : Nat} (h : mayB t [(a : Int)] = true) : omegaP t a = (omegaSet t.length (entN t) a : Nat) := by rw [omegaP, if_pos h]; rfl
theorem validSet_any' (w : World) (a : Option Addr) (n cap : Nat) (s : Int) (hn : n ≤ 12) :
    Calls Tryd.prog 52 #[.slice a n cap, .int .i64 s] w fun e w' => e = .returned (.bool (setB n s)) ∧ w = w' := validSet_any w a n cap s hn
set_option maxHeartbeats 400000 in
theorem pprod_any (B : Nat) (w : World) (v : Value) (t : List (List Int)) (a b : Int) (hB : B ≤ w.heap.size) (h : Mat B w v t) (hT : TabOk w) :
    Calls Tryd.prog 20 #[v, .int .i64 a, .int .i64 b] w fun e w' => e = .returned (.int .i64 (prodP t a b)) ∧ w.grownBy w' none := by
  have hlm := h.len_le
  unfold maxLen at hlm
  have H := Lib.hid h
  have hv := validate_any B w v t hB h
  have HV := Lib.hid hv
  obtain ⟨sa, sc, rfl⟩ := h.shape
  clear h hv
  by_cases h1 : validE t = 0
  · rw [h1] at HV
    have H1 := Lib.hid h1; clear h1
    by_cases h2 : t.length ≤ 12
    · cases h3 : setB t.length a
      · have HN := Lib.hid (prodP_no (t := t) (a := a) (b := b) (fun hm => by have := (mayB_two.1 hm).2.2.1; rw [h3] at this; cases this))
        have H3 := Lib.hid h3; clear h3
        go_enter Tryd.func20, Tryd.ntmps20
        go_wp2_with fail
        refine HV.out.mono ?_
        rintro e w1 ⟨rfl, hg1⟩
        go_wp2_with fail
        refine (validSet_any' w1 sa t.length sc a h2).mono ?_
        rintro e w2 ⟨rfl, rfl⟩
        rw [H3.out]
        go_wp2
        go_ret
        exact ⟨ret_int HN.out.symm, hg1⟩
      · cases h4 : setB t.length b
        · have HN := Lib.hid (prodP_no (t := t) (a := a) (b := b) (fun hm => by have := (mayB_two.1 hm).2.2.2; rw [h4] at this; cases this))
          have H3 := Lib.hid h3; have H4 := Lib.hid h4; clear h3 h4
          go_enter Tryd.func20, Tryd.ntmps20
          go_wp2_with fail
          refine HV.out.mono ?_
          rintro e w1 ⟨rfl, hg1⟩
          go_wp2_with fail
          refine (validSet_any' w1 sa t.length sc a h2).mono ?_
          rintro e w2 ⟨rfl, rfl⟩
          rw [H3.out]
          go_wp2_with fail
          refine (validSet_any' w1 sa t.length sc b h2).mono ?_
          rintro e w2 ⟨rfl, rfl⟩
          rw [H4.out]
          go_wp2
          go_ret
          exact ⟨ret_int HN.out.symm, hg1⟩
        · have hm : mayB t [a, b] = true := mayB_two.2 ⟨H1.out, h2, h3, h4⟩
          obtain ⟨a', rfl, ha⟩ := setB_true h3
          obtain ⟨b', rfl, hb⟩ := setB_true h4
          have HY := Lib.hid (prodP_yes hm)
          have H3 := Lib.hid h3; have H4 := Lib.hid h4; clear h3 h4 hm
          go_enter Tryd.func20, Tryd.ntmps20
          go_wp2_with fail
          refine HV.out.mono ?_
          rintro e w1 ⟨rfl, hg1⟩
          have HG1 := Lib.hid hg1
          clear hg1
          go_wp2_with fail
          refine (validSet_any' w1 sa t.length sc a' h2).mono ?_
          rintro e w2 ⟨rfl, rfl⟩
          rw [H3.out]
          go_wp2_with fail
          refine (validSet_any' w1 sa t.length sc b' h2).mono ?_
          rintro e w2 ⟨rfl, rfl⟩
          rw [H4.out]
          go_wp2_with fail
          refine (newSets_any B w1 _ t (by have := HG1.out.size; omega) (H.out.kept HG1.out (by simp)) H1.out h2 (hT.kept HG1.out (by simp))).mono ?_
          rintro e w2 ⟨p, go, rfl, hs, hg2⟩
          have hT2 := hT.kept (grownBy_trans' HG1.out hg2) (by simp)
          have HS := Lib.hid hs; have HG2 := Lib.hid hg2
          clear hs hg2
          go_wp2_with fail
          refine (product_any _ _ w2 p go t.length (entN t) a' b' HS.out (tb_of H1.out).lt h2 ha hb hT2).mono ?_
          rintro e w3 ⟨rfl, m, rfl⟩
          go_wp2
          go_ret
          exact ⟨ret_int HY.out.symm, grownBy_trans' (grownBy_trans' HG1.out HG2.out) (grownBy_drewN _ _ _)⟩
    · have HN := Lib.hid (prodP_no (t := t) (a := a) (b := b) (fun hm => h2 (mayB_two.1 hm).2.1))
      go_enter Tryd.func20, Tryd.ntmps20
      go_wp2_with fail
      refine HV.out.mono ?_
      rintro e w1 ⟨rfl, hg1⟩
      go_wp2
      go_ret
      exact ⟨ret_int HN.out.symm, hg1⟩
  · have hb : (validE t != 0) = true := by rw [bne_iff_ne]; exact h1
    have HN := Lib.hid (prodP_no (t := t) (a := a) (b := b) (fun hm => h1 (mayB_two.1 hm).1))
    clear h1
    go_enter Tryd.func20, Tryd.ntmps20
    go_wp2_with fail
    refine HV.out.mono ?_
    rintro e w1 ⟨rfl, hg1⟩
    go_wp2
    go_ret
    exact ⟨ret_int HN.out.symm, hg1⟩
set_option maxHeartbeats 400000 in
theorem pomega_any (B : Nat) (w : World) (v : Value) (t : List (List Int)) (a : Int) (hB : B ≤ w.heap.size) (h : Mat B w v t) (hT : TabOk w) :
    Calls Tryd.prog 22 #[v, .int .i64 a] w fun e w' => e = .returned (.int .i64 (omegaP t a)) ∧ w.grownBy w' none := by
  have hlm := h.len_le
  unfold maxLen at hlm
  have H := Lib.hid h
  have hv := validate_any B w v t hB h
  have HV := Lib.hid hv
  obtain ⟨sa, sc, rfl⟩ := h.shape
  clear h hv
  by_cases h1 : validE t = 0
  · rw [h1] at HV
    have H1 := Lib.hid h1; clear h1
    by_cases h2 : t.length ≤ 12
    · cases h3 : setB t.length a
      · have HN := Lib.hid (omegaP_no (t := t) (a := a) (fun hm => by have := (mayB_one.1 hm).2.2; rw [h3] at this; cases this))
        have H3 := Lib.hid h3; clear h3
        go_enter Tryd.func22, Tryd.ntmps22
        go_wp2_with fail
        refine HV.out.mono ?_
        rintro e w1 ⟨rfl, hg1⟩
        go_wp2_with fail
        refine (validSet_any' w1 sa t.length sc a h2).mono ?_
        rintro e w2 ⟨rfl, rfl⟩
        rw [H3.out]
        go_wp2
        go_ret
        exact ⟨ret_int HN.out.symm, hg1⟩
      · have hm : mayB t [a] = true := mayB_one.2 ⟨H1.out, h2, h3⟩
        obtain ⟨a', rfl, ha⟩ := setB_true h3
        have HY := Lib.hid (omegaP_yes hm)
        have H3 := Lib.hid h3; clear h3 hm
        go_enter Tryd.func22, Tryd.ntmps22
        go_wp2_with fail
        refine HV.out.mono ?_
        rintro e w1 ⟨rfl, hg1⟩
        have HG1 := Lib.hid hg1
        clear hg1
        go_wp2_with fail
        refine (validSet_any' w1 sa t.length sc a' h2).mono ?_
        rintro e w2 ⟨rfl, rfl⟩
        rw [H3.out]
        go_wp2_with fail
        refine (newSets_any B w1 _ t (by have := HG1.out.size; omega) (H.out.kept HG1.out (by simp)) H1.out h2 (hT.kept HG1.out (by simp))).mono ?_
        rintro e w2 ⟨p, go, rfl, hs, hg2⟩
        have hT2 := hT.kept (grownBy_trans' HG1.out hg2) (by simp)
        have HS := Lib.hid hs; have HG2 := Lib.hid hg2
        clear hs hg2
        go_wp2_with fail
        refine (omega_any _ _ w2 p go t.length (entN t) a' HS.out (tb_of H1.out) h2 ha hT2).mono ?_
        rintro e w3 ⟨rfl, hs3, hg3⟩
        have hlt := HS.out.go_lt'
        go_wp2
        go_ret
        exact ⟨ret_int HY.out.symm, grown_far (grownBy_trans' HG1.out HG2.out) hg3 (fun q e => by have : go = q := Option.some.inj e; have := HG1.out.size; omega)⟩
    · have HN := Lib.hid (omegaP_no (t := t) (a := a) (fun hm => h2 (mayB_one.1 hm).2.1))
      go_enter Tryd.func22, Tryd.ntmps22
      go_wp2_with fail
      refine HV.out.mono ?_
      rintro e w1 ⟨rfl, hg1⟩
      go_wp2
      go_ret
      exact ⟨ret_int HN.out.symm, hg1⟩
  · have hb : (validE t != 0) = true := by rw [bne_iff_ne]; exact h1
    have HN := Lib.hid (omegaP_no (t := t) (a := a) (fun hm => h1 (mayB_one.1 hm).1))
    clear h1
    go_enter Tryd.func22, Tryd.ntmps22
    go_wp2_with fail
    refine HV.out.mono ?_
    rintro e w1 ⟨rfl, hg1⟩
    go_wp2
    go_ret
    exact ⟨ret_int HN.out.symm, hg1⟩
theorem mayB_bad {t : List (List Int)} {zs : List Int} {k : Nat} (hk : k < zs.length) (h : setB t.length (zs.getD k 0) = false) : mayB t zs = false := by
  have : zs.all (setB t.length) = false := by
    rw [List.all_eq_false]
    refine ⟨zs.getD k 0, ?_, by rw [h]; simp⟩
    simp only [List.getD, List.getElem?_eq_getElem hk]; exact List.getElem_mem hk
  simp [mayB, this]
def SetsTo (n : Nat) (zs : List Int) (k : Nat) : Prop := ∀ i, i < k → setB n (zs.getD i 0) = true
theorem mayB_good {t : List (List Int)} {zs : List Int} (h1 : validE t = 0) (h2 : t.length ≤ 12) (h : SetsTo t.length zs zs.length) : mayB t zs = true := by
  have : zs.all (setB t.length) = true := by
    rw [List.all_eq_true]
    intro x hx
    obtain ⟨i, hi, rfl⟩ := List.getElem_of_mem hx
    have := h i hi
    simpa [List.getD, List.getElem?_eq_getElem hi] using this
  simp [mayB, h1, h2, this]
set_option maxHeartbeats 400000 in
theorem may40_any (B : Nat) (w : World) (v sv : Value) (t : List (List Int)) (zs : List Int) (h : Mat B w v t) (hz : Row B w sv (ints zs)) (hz0 : 0 < zs.length) (hzl : zs.length ≤ 10) :
    Calls Tryd.prog 54 #[v, sv] w fun e w' => e = .returned (.bool (mayB t zs)) ∧ ∃ m, w' = w.drewN m := by
  have hlm := h.len_le
  unfold maxLen at hlm
  have hv := validate14_any B w v t h
  have HV := Lib.hid hv
  obtain ⟨sa, sc, rfl⟩ := h.shape
  obtain ⟨zb, zo, zc, rfl, _, _, _, hra⟩ := hz.some_ (by rw [ints_length]; exact hz0)
  rw [ints_length]
  have RA := Lib.hid hra
  clear h hv hz hra
  by_cases h1 : validE t = 0
  · rw [h1] at HV
    have H1 := Lib.hid h1; clear h1
    by_cases h2 : t.length ≤ 12
    · go_enter Tryd.func54, Tryd.ntmps54
      go_wp2_with fail
      refine HV.out.mono ?_
      rintro e w1 ⟨rfl, m, rfl⟩
      go_wp2
      go_loopg [17] zs.length (fun g i wr => ∃ k : Nat, g + k = zs.length ∧ i = .int .i64 k ∧ SetsTo t.length zs k ∧ wr = w.drewN m)
      case atStart => exact ⟨0, rfl, rfl, fun x hx => absurd hx (by omega), rfl⟩
      case round =>
        obtain ⟨k, hg, rfl, hok, rfl⟩ := hrel
        have HG := Lib.hid hg; have OK := Lib.hid hok; clear hg hok
        by_cases hk : k < zs.length
        · have hk' : (k : Int) < zs.length := by omega
          have ck := RA.out.int k hk
          obtain ⟨z, hz⟩ : ∃ z, z = zs.getD k 0 := ⟨_, rfl⟩
          rw [← hz] at ck
          have HZ := Lib.hid hz; clear hz
          go_wp2_with fail
          refine (isSet_any _ sa t.length sc z h2).mono ?_
          rintro e w2 ⟨rfl, rfl⟩
          cases hb : setB t.length z
          · have HN := Lib.hid (mayB_bad (t := t) hk (by rw [← HZ.out]; exact hb))
            clear hb
            go_wp2
            go_ret
            exact ⟨ret_bool HN.out.symm, m, rfl⟩
          · have HB := Lib.hid hb; clear hb
            go_wp2
            go_roundg (zs.length - (k + 1))
            case measure => have := HG.out; omega
            case rel =>
              refine ⟨k + 1, by omega, by go_num, fun i hi => ?_, rfl⟩
              rcases Nat.lt_succ_iff_lt_or_eq.1 hi with hi | rfl
              · exact OK.out i hi
              · rw [← HZ.out]; exact HB.out
        · have HY : Hid (mayB t zs = true) := by
            have hkz : k = zs.length := by have := HG.out; omega
            exact Lib.hid (mayB_good H1.out h2 (by rw [← hkz]; exact OK.out))
          go_wp2
          go_ret
          exact ⟨ret_bool HY.out.symm, m, rfl⟩
    · have HN : Hid (mayB t zs = false) := Lib.hid (by simp [mayB, h2])
      go_enter Tryd.func54, Tryd.ntmps54
      go_wp2_with fail
      refine HV.out.mono ?_
      rintro e w1 ⟨rfl, m, rfl⟩
      go_wp2
      go_ret
      exact ⟨ret_bool HN.out.symm, m, rfl⟩
  · have hb : (validE t != 0) = true := by rw [bne_iff_ne]; exact h1
    have HN : Hid (mayB t zs = false) := Lib.hid (by simp [mayB, h1])
    clear h1
    go_enter Tryd.func54, Tryd.ntmps54
    go_wp2_with fail
    refine HV.out.mono ?_
    rintro e w1 ⟨rfl, m, rfl⟩
    go_wp2
    go_ret
    exact ⟨ret_bool HN.out.symm, m, rfl⟩
theorem row_lit (w : World) (zs : List Int) (cs : Array Value) (hcs : cs.toList = ints zs) (n : Nat) (hn : zs.length = n) (hm : n ≤ maxLen) : Row (w.heap.size + 1) (w.alloc (.cells cs 3)) (.slice (some ⟨w.heap.size, 0, none⟩) n n) (ints zs) := by
  have ha := Arr.new w 3 cs
  rw [hcs] at ha
  exact .inr ⟨w.heap.size, 0, n, by rw [ints_length, hn], by omega, by rw [ints_length]; omega, hm, ha.row⟩
set_option maxHeartbeats 400000 in
theorem rprod_any (B : Nat) (w : World) (v : Value) (t : List (List Int)) (a b : Int) (hB : B ≤ w.heap.size) (h : Mat B w v t) :
    Calls Tryd.prog 21 #[v, .int .i64 a, .int .i64 b] w fun e w' => e = .returned (.int .i64 (prodP t a b)) ∧ w.grownBy w' none := by
  have hA := World.grownBy_alloc w (.cells #[.int .i64 a, .int .i64 b] 3) none
  have hr := row_lit w [a, b] #[.int .i64 a, .int .i64 b] rfl 2 rfl (by unfold maxLen; omega)
  have hM := may40_any (w.heap.size + 1) _ v _ t [a, b] ((h.kept hA (by simp)).mono (by omega)) hr (by simp) (by simp)
  have HM := Lib.hid hM; have HA := Lib.hid hA; have H := Lib.hid h
  obtain ⟨sa, sc, rfl⟩ := h.shape
  clear hA hr hM h
  cases hm : mayB t [a, b]
  · have HN := Lib.hid (prodP_no (t := t) (a := a) (b := b) (by rw [hm]; simp))
    rw [hm] at HM
    clear hm
    go_enter Tryd.func21, Tryd.ntmps21
    go_wp2_with fail
    refine HM.out.mono ?_
    rintro e w1 ⟨rfl, m, rfl⟩
    go_wp2
    go_ret
    exact ⟨ret_int HN.out.symm, grownBy_trans' HA.out (grownBy_drewN _ _ _)⟩
  · obtain ⟨h1, h2, h3, h4⟩ := mayB_two.1 hm
    obtain ⟨a', rfl, ha⟩ := setB_true h3
    obtain ⟨b', rfl, hb⟩ := setB_true h4
    have HY := Lib.hid (prodP_yes hm)
    rw [hm] at HM
    have H1 := Lib.hid h1
    clear hm h3 h4 h1
    go_enter Tryd.func21, Tryd.ntmps21
    go_wp2_with fail
    refine HM.out.mono ?_
    rintro e w1 ⟨rfl, m, rfl⟩
    go_wp2_with fail
    refine (prod40_any B _ _ t a' b' (H.out.kept (grownBy_trans' HA.out (grownBy_drewN _ _ _)) (by simp)) (valid_of H1.out).1 h2 ha hb).mono ?_
    rintro e w2 ⟨rfl, rfl⟩
    go_wp2
    go_ret
    exact ⟨ret_int HY.out.symm, grownBy_trans' HA.out (grownBy_drewN _ _ _)⟩
set_option maxHeartbeats 400000 in
theorem romega_any (B : Nat) (w : World) (v : Value) (t : List (List Int)) (a : Int) (hB : B ≤ w.heap.size) (h : Mat B w v t) :
    Calls Tryd.prog 23 #[v, .int .i64 a] w fun e w' => e = .returned (.int .i64 (omegaP t a)) ∧ w.grownBy w' none := by
  have hA := World.grownBy_alloc w (.cells #[.int .i64 a] 3) none
  have hr := row_lit w [a] #[.int .i64 a] rfl 1 rfl (by unfold maxLen; omega)
  have hM := may40_any (w.heap.size + 1) _ v _ t [a] ((h.kept hA (by simp)).mono (by omega)) hr (by simp) (by simp)
  have HM := Lib.hid hM; have HA := Lib.hid hA; have H := Lib.hid h
  obtain ⟨sa, sc, rfl⟩ := h.shape
  clear hA hr hM h
  cases hm : mayB t [a]
  · have HN := Lib.hid (omegaP_no (t := t) (a := a) (by rw [hm]; simp))
    rw [hm] at HM
    clear hm
    go_enter Tryd.func23, Tryd.ntmps23
    go_wp2_with fail
    refine HM.out.mono ?_
    rintro e w1 ⟨rfl, m, rfl⟩
    go_wp2
    go_ret
    exact ⟨ret_int HN.out.symm, grownBy_trans' HA.out (grownBy_drewN _ _ _)⟩
  · obtain ⟨h1, h2, h3⟩ := mayB_one.1 hm
    obtain ⟨a', rfl, ha⟩ := setB_true h3
    have HY := Lib.hid (omegaP_yes hm)
    rw [hm] at HM
    have H1 := Lib.hid h1
    clear hm h3 h1
    go_enter Tryd.func23, Tryd.ntmps23
    go_wp2_with fail
    refine HM.out.mono ?_
    rintro e w1 ⟨rfl, m, rfl⟩
    go_wp2_with fail
    refine (omega40_any B _ _ t a' (H.out.kept (grownBy_trans' HA.out (grownBy_drewN _ _ _)) (by simp)) H1.out h2 ha).mono ?_
    rintro e w2 ⟨rfl, rfl⟩
    go_wp2
    go_ret
    exact ⟨ret_int HY.out.symm, grownBy_trans' HA.out (grownBy_drewN _ _ _)⟩
end Go.Proofs.YtdjhoadoiknaoaaDoor
