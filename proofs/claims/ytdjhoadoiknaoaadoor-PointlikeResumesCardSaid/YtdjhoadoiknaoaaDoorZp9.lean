/- Part 9 of the proof: Valid, Prod, Check. -/
import Derived.Test.YtdjhoadoiknaoaaDoorZp8
set_option linter.unusedVariables false
set_option linter.unusedSimpArgs false
namespace Go.Proofs.YtdjhoadoiknaoaaDoor
open Go.RowKit
theorem validate_any (B : Nat) (w : World) (v : Value) (t : List (List Int)) (hB : B ≤ w.heap.size) (h : Mat B w v t) :
  Calls Tryd.prog 51 #[v] w fun e w' => e = .returned (.int .i64 (yZ t)) ∧ w.grownBy w' none := by
 by_cases hE : uB t = 0
 ·have hs := shape_of hE
  have HS := Kh hs; have HE := Kh hE; have H := Kh h
  clear hs hE h
  go_enter Tryd.func51, Tryd.ntmps51
  go_wp2_with fail
  refine (shape_any B w v t H.out).mono ?_
  rintro e w' ⟨rfl, rfl⟩
  rw [HE.out]
  go_wp2_with fail
  refine (spanning_any B w v t hB H.out HS.out).mono ?_
  rintro e w1 ⟨sa, sc, gs, rfl, hrow, hgl, hgen, hg1⟩
  have HR := Kh hrow; have HGL := Kh hgl; have HGEN := Kh hgen
  have HM := Kh ((H.out.kept hg1 (by simp)).mono (show B ≤ w1.heap.size by have := hg1.size; omega))
  clear hrow hgl hgen
  go_wp2_with fail
  refine (associates_any w1.heap.size w1 v _ t gs (Nat.le_refl _) HM.out HS.out HR.out HGL.out).mono ?_
  rintro e w2 ⟨rfl, hg2⟩
  have hg := zF hg1 hg2
  cases hb : lightB t gs
  ·have hv : yZ t = 5 := validE_not HE.out (fun ha => by
    rw [lightB_true (fun g hg => ha g (HGL.out g hg))] at hb; cases hb)
   have HV := Kh hv
   clear hb hv
   go_wp2
   go_ret
   exact ⟨yH HV.out.symm, hg⟩
  ·have hv : yZ t = 0 := sJ HE.out (assoc_of_light HS.out HGEN.out (fun g hg => ⟨HGL.out g hg, by
    have : LightAll t gs := by simpa [lightB] using hb
    exact this g hg⟩))
   have HV := Kh hv
   clear hb hv
   go_wp2
   go_ret
   exact ⟨yH HV.out.symm, hg⟩
 ·have hb : (uB t != 0) = true := by rw [bne_iff_ne]; exact hE
  have HE := Kh hE; clear hE
  go_enter Tryd.func51, Tryd.ntmps51
  go_wp2_with fail
  refine (shape_any B w v t h).mono ?_
  rintro e w' ⟨rfl, rfl⟩
  go_wp2
  go_ret
  exact ⟨yH (validE_shape HE.out).symm, zU _ _⟩
theorem valid_any (B : Nat) (w : World) (v : Value) (t : List (List Int)) (hB : B ≤ w.heap.size) (h : Mat B w v t) :
  Calls Tryd.prog 96 #[v] w fun e w' => e = .returned (.bool (yZ t == 0)) ∧ w.grownBy w' none := by
 go_enter Tryd.func96, Tryd.ntmps96
 go_wp2_with fail
 refine (validate_any B w v t hB h).mono ?_
 rintro e w1 ⟨rfl, hg⟩
 go_wp2
 go_ret
 exact ⟨rfl, hg⟩
theorem range_step (n k : Nat) (hk : k < n) : (List.range k ++ List.replicate (n - k) 0).set k k = List.range (k + 1) ++ List.replicate (n - (k + 1)) 0 := by
 rw [List.set_append_right _ _ (by simp), List.length_range, Nat.sub_self, List.range_succ, List.append_assoc]
 congr 1
 rw [show n - k = n - (k + 1) + 1 by omega, List.replicate_succ, List.set_cons_zero]
 rfl
set_option maxHeartbeats 400000 in
theorem elements_any (w : World) (a : Option Addr) (n cap : Nat) (hn : n ≤ 400) :
  Calls Tryd.prog 98 #[.slice a n cap] w fun e w' => e = .returned (.slice (some ⟨w.heap.size, 0, none⟩) n n) ∧ Arr w' w.heap.size 3 (nats (List.range n)) ∧ w.grownBy w' none := by
 go_enter Tryd.func98, Tryd.ntmps98
 go_wp2_with (at_make; refine make1 rfl _ _ _ rfl yD rfl _ _ _ _ n rfl rfl rfl rfl ?b1 ?b2 ?_; (case b1 => omega); (case b2 => (unfold maxLen; omega)); intro w1 ha1 hg1 hz1)
 rw [← xW] at ha1
 have HA := Kh ha1; clear ha1
 go_loopg [10] n (fun g i wr => ∃ k : Nat, g + k = n ∧ i = .int .i64 k ∧ Arr wr w.heap.size 3 (nats (List.range k ++ List.replicate (n - k) 0)) ∧ w.grownBy wr none)
 case atStart => exact ⟨0, rfl, rfl, by simpa using HA.out, hg1⟩
 case round =>
  clear HA hg1 hz1
  obtain ⟨k, hg, rfl, harr, hgr⟩ := hrel
  have HG := Kh hg; clear hg
  by_cases hk : k < n
  ·have hk' : (k : Int) < n := by omega
   have hlen : (List.range k ++ List.replicate (n - k) 0).length = n := by simp; omega
   have ck := harr.nat k (by rw [hlen]; exact hk)
   have fk := harr.frozen k
   have hst := harr.nat_set k (by rw [hlen]; exact hk) k
   rw [range_step n k hk] at hst
   have HST := Kh hst
   clear hst hlen harr
   go_wp2
   go_roundg (n - (k + 1))
   case measure => have := HG.out; omega
   case rel => exact ⟨k + 1, by omega, by go_num, HST.out, zG hgr (zH _ _ _) (by simp)⟩
  ·have hk2 : k = n := by have := HG.out; omega
   have HK2 := Kh hk2
   have HARR := Kh harr
   clear harr hk2
   go_wp2
   go_ret
   refine ⟨rfl, ?_, hgr⟩
   have := HARR.out
   rw [HK2.out, Nat.sub_self, List.replicate_zero, List.append_nil] at this
   exact this
theorem isId_bad {t : List (List Int)} {e x : Nat} (hx : x < t.length) (h : idAt t e x = false) : isId t e = false := by
 rw [← Bool.not_eq_true, isId, List.all_eq_true]
 intro ha
 rw [ha x (List.mem_range.2 hx)] at h; cases h
def IdTo (t : List (List Int)) (e k : Nat) : Prop := ∀ x, x < k → idAt t e x = true
theorem isId_good {t : List (List Int)} {e : Nat} (h : IdTo t e t.length) : isId t e = true := by
 rw [isId, List.all_eq_true]; intro x hx; exact h x (List.mem_range.1 hx)
set_option maxRecDepth 100000 in
set_option maxHeartbeats 800000 in
theorem isid_any (B : Nat) (w : World) (pb b off cap : Nat) (RB RO RC : Nat → Nat) (t : List (List Int)) (e : Nat) (hq : Sq B w t b off RB RO RC) (hmx : cap ≤ 9223372036854775807) (hc : t.length ≤ cap) (he : e < t.length)
  (hp : w.cell? ⟨pb, 0, none⟩ = some (.slice (some ⟨b, off, none⟩) t.length cap)) :
  Calls Tryd.prog 99 #[.int .i64 (e : Int), .pointer (some ⟨pb, 0, none⟩)] w fun r w' => r = .returned (.bool (isId t e)) ∧ ∃ m, w' = w.drewN m := by
 have HQ := Kh hq; clear hq
 have he' : (e : Int) < t.length := by omega
 have ce := HQ.out.hd e he
 go_enter Tryd.func99, Tryd.ntmps99
 go_wp2
 go_loopg [7] t.length (fun g i wr => ∃ k m : Nat, g + k = t.length ∧ i = .int .i64 k ∧ IdTo t e k ∧ wr = w.drewN m)
 case atStart => exact ⟨0, 0, rfl, rfl, fun x hx => absurd hx (by omega), rfl⟩
 case round =>
  obtain ⟨x, m, hg, rfl, hok, rfl⟩ := hrel
  have HG := Kh hg; have OK := Kh hok; clear hg hok
  by_cases hx : x < t.length
  ·have hx' : (x : Int) < t.length := by omega
   have cx := HQ.out.hd x hx
   have cex := HQ.out.el e x he hx
   have cxe := HQ.out.el x e hx he
   obtain ⟨p, hp1⟩ : ∃ p, p = entN t e x := ⟨_, rfl⟩
   obtain ⟨q, hq1⟩ : ∃ q, q = entN t x e := ⟨_, rfl⟩
   rw [← hp1] at cex
   rw [← hq1] at cxe
   have HI : Hid (idAt t e x = (p == x && q == x)) := by rw [hp1, hq1]; exact Kh rfl
   clear hp1 hq1
   by_cases h1 : p = x
   ·have e1 : ((p : Int) != (x : Int)) = false := by rw [h1]; simp
    by_cases h2 : q = x
    ·have e2 : ((q : Int) != (x : Int)) = false := by rw [h2]; simp
     have H1 := Kh h1; have H2 := Kh h2; clear h1 h2
     go_wp2
     first | (go_quiet (fail); go_wp2) | skip
     go_roundg (t.length - (x + 1))
     case measure => have := HG.out; omega
     case rel =>
      refine ⟨x + 1, _, by omega, by go_num, fun y hy => ?_, rfl⟩
      rcases Nat.lt_succ_iff_lt_or_eq.1 hy with hy | rfl
      ·exact OK.out y hy
      ·rw [HI.out, H1.out, H2.out]; simp
    ·have e2 : ((q : Int) != (x : Int)) = true := by rw [bne_iff_ne]; omega
     have H1 := Kh h1; have H2 := Kh h2; clear h1 h2
     go_wp2
     first | (go_quiet (fail); go_wp2) | skip
     go_ret
     exact ⟨xK (isId_bad hx (by rw [HI.out]; simp [H2.out])).symm, _, rfl⟩
   ·have e1 : ((p : Int) != (x : Int)) = true := by rw [bne_iff_ne]; omega
    have H1 := Kh h1; clear h1
    go_wp2
    first | (go_quiet (fail); go_wp2) | skip
    go_ret
    exact ⟨xK (isId_bad hx (by rw [HI.out]; simp [H1.out])).symm, _, rfl⟩
  ·have hk2 : x = t.length := by have := HG.out; omega
   have HK2 := Kh hk2; clear hk2
   go_wp2
   go_ret
   exact ⟨xK (isId_good (by rw [← HK2.out]; exact OK.out)).symm, _, rfl⟩
set_option maxRecDepth 100000 in
theorem indexFunc_any (B : Nat) (w : World) (pb g b off cap : Nat) (RB RO RC : Nat → Nat) (t : List (List Int)) (hq : Sq B w t b off RB RO RC) (hmx : cap ≤ 9223372036854775807) (hc : t.length ≤ cap) (hp : w.cell? ⟨pb, 0, none⟩ = some (.slice (some ⟨b, off, none⟩) t.length cap))
  (ha : Arr w g 3 (nats (List.range t.length))) :
  Calls Tryd.prog 97 #[.slice (some ⟨g, 0, none⟩) t.length t.length, .func (.func 99) #[] #[.pointer (some ⟨pb, 0, none⟩)]] w fun e w' => e = .returned (.int .i64 (wR t)) ∧ ∃ m, w' = w.drewN m := by
 have HQ := Kh hq; have HA := Kh ha; clear hq ha
 go_enter Tryd.func97, Tryd.ntmps97
 go_wp2
 go_loopg [8] t.length (fun g i wr => ∃ k m : Nat, g + k = t.length ∧ i = .int .i64 k ∧ NoId t k ∧ wr = w.drewN m)
 case atStart => exact ⟨0, 0, rfl, rfl, fun x hx => absurd hx (by omega), rfl⟩
 case round =>
  obtain ⟨x, m, hg, rfl, hok, rfl⟩ := hrel
  have HG := Kh hg; have OK := Kh hok; clear hg hok
  by_cases hx : x < t.length
  ·have hx' : (x : Int) < t.length := by omega
   have cx := HA.out.nat x (by simpa using hx)
   rw [show (List.range t.length).getD x 0 = x by simp [List.getD, hx]] at cx
   go_wp2_with fail
   refine (isid_any B (w.drewN m) pb b off cap RB RO RC t x (HQ.out.kept (zO _ _ none) (by simp)) hmx hc hx hp).mono ?_
   rintro e w2 ⟨rfl, m2, rfl⟩
   cases hI : isId t x
   ·have HI := Kh hI; clear hI
    go_wp2
    go_roundg (t.length - (x + 1))
    case measure => have := HG.out; omega
    case rel =>
     refine ⟨x + 1, m + m2, by omega, by go_num, fun y hy => ?_, rfl⟩
     rcases Nat.lt_succ_iff_lt_or_eq.1 hy with hy | rfl
     ·exact OK.out y hy
     ·exact HI.out
   ·have HI := Kh hI; clear hI
    go_wp2
    go_ret
    exact ⟨yH (identI_some hx HI.out OK.out).symm, m + m2, rfl⟩
  ·go_wp2
   go_ret
   exact ⟨yH (identI_none (fun x' hx' => OK.out x' (by omega))).symm, m, rfl⟩
noncomputable def identE (t : List (List Int)) : Int := if yZ t = 0 then wR t else -1
theorem identE_valid {t : List (List Int)} (h : yZ t = 0) : identE t = wR t := by rw [identE, if_pos h]
theorem identE_not {t : List (List Int)} (h : ¬ yZ t = 0) : identE t = -1 := by rw [identE, if_neg h]
set_option maxRecDepth 100000 in
theorem identity_any (B : Nat) (w : World) (v : Value) (t : List (List Int)) (hB : B ≤ w.heap.size) (h : Mat B w v t) :
  Calls Tryd.prog 71 #[v] w fun e w' => e = .returned (.int .i64 (identE t)) ∧ w.grownBy w' none := by
 have g0 := World.grownBy_alloc w (.cells #[v] 26) none
 have h0 := h.kept g0 (by simp)
 have hbox := heap_alloc_new w (.cells #[v] 26)
 have HB := Kh hbox; have H0 := Kh h0
 clear hbox h0
 have hB0 : B ≤ (w.alloc (.cells #[v] 26)).heap.size := by rw [zM]; omega
 by_cases hv : yZ t = 0
 ·have hb : (yZ t == 0) = true := by simp [hv]
  have HV := Kh hv; clear hv
  obtain ⟨b, off, cap, RB, RO, RC, rfl, hc1, hc2, hq⟩ := h.sq (valid_of HV.out).1
  have hmx : cap ≤ 9223372036854775807 := by unfold maxLen at hc2; omega
  have hpos := (valid_of HV.out).1.pos
  have hle := (valid_of HV.out).1.le
  have HQ := Kh hq; clear hq h hc2
  go_enter Tryd.func71, Tryd.ntmps71
  go_wp2_with fail
  refine (valid_any B _ _ t hB0 H0.out).mono ?_
  rintro e w1 ⟨rfl, hg1⟩
  have c1 := zI (zE HB.out hg1 (by simp)) 0 (by simp)
  simp only [List.getElem_toArray, List.getElem_cons_zero] at c1
  have gw1 := zF g0 hg1
  go_wp2_with fail
  refine (elements_any w1 _ _ _ hle).mono ?_
  rintro e w2 ⟨rfl, ha2, hg2⟩
  have c2 := zI (zE (zE HB.out hg1 (by simp)) hg2 (by simp)) 0 (by simp)
  simp only [List.getElem_toArray, List.getElem_cons_zero] at c2
  have gw2 := zF gw1 hg2
  have HQ2 := Kh (HQ.out.kept gw2 (by simp))
  have HA2 := Kh ha2
  clear ha2 hg1 hg2 c1
  go_wp2_with fail
  refine (indexFunc_any B w2 w.heap.size w1.heap.size b off cap RB RO RC t HQ2.out hmx hc1 c2 HA2.out).mono ?_
  rintro e w3 ⟨rfl, m, rfl⟩
  go_wp2
  go_ret
  exact ⟨yH (identE_valid HV.out).symm, zF gw2 (zO _ _ _)⟩
 ·have hb : (yZ t == 0) = false := by rw [beq_eq_false_iff_ne]; exact hv
  have HV := Kh hv; clear hv
  obtain ⟨sa, sc, rfl⟩ := h.shape
  clear h
  go_enter Tryd.func71, Tryd.ntmps71
  go_wp2_with fail
  refine (valid_any B _ _ t hB0 H0.out).mono ?_
  rintro e w1 ⟨rfl, hg1⟩
  go_wp2
  go_ret
  exact ⟨yH (identE_not HV.out).symm, zF g0 hg1⟩
noncomputable def mayB (t : List (List Int)) (zs : List Int) : Bool := (yZ t == 0) && decide (t.length ≤ 12) && zs.all (setB t.length)
noncomputable def omegaP (t : List (List Int)) (a : Int) : Int := if mayB t [a] = true then (wW t.length (entN t) a.toNat : Nat) else 0
theorem mayB_one {t : List (List Int)} {a : Int} : mayB t [a] = true ↔ yZ t = 0 ∧ t.length ≤ 12 ∧ setB t.length a = true := by
 simp [mayB, and_assoc]
theorem setB_true {n : Nat} {s : Int} (h : setB n s = true) : ∃ a : Nat, s = a ∧ a < 2 ^ n := by
 simp only [setB, decide_eq_true_eq] at h
 exact ⟨s.toNat, by omega, by omega⟩
theorem omegaP_no {t : List (List Int)} {a : Int} (h : ¬ mayB t [a] = true) : omegaP t a = 0 := by rw [omegaP, if_neg h]
theorem omegaP_yes {t : List (List Int)} {a : Nat} (h : mayB t [(a : Int)] = true) : omegaP t a = (wW t.length (entN t) a : Nat) := by rw [omegaP, if_pos h]; rfl
theorem vH (w : World) (a : Option Addr) (n cap : Nat) (s : Int) (hn : n ≤ 12) :
  Calls Tryd.prog 52 #[.slice a n cap, .int .i64 s] w fun e w' => e = .returned (.bool (setB n s)) ∧ w = w' := validSet_any w a n cap s hn
set_option maxHeartbeats 400000 in
theorem pomega_any (B : Nat) (w : World) (v : Value) (t : List (List Int)) (a : Int) (hB : B ≤ w.heap.size) (h : Mat B w v t) (hT : TabOk w) :
  Calls Tryd.prog 22 #[v, .int .i64 a] w fun e w' => e = .returned (.int .i64 (omegaP t a)) ∧ w.grownBy w' none := by
 have hlm := h.len_le
 unfold maxLen at hlm
 have H := Kh h
 have hv := validate_any B w v t hB h
 have HV := Kh hv
 obtain ⟨sa, sc, rfl⟩ := h.shape
 clear h hv
 by_cases h1 : yZ t = 0
 ·rw [h1] at HV
  have H1 := Kh h1; clear h1
  by_cases h2 : t.length ≤ 12
  ·cases h3 : setB t.length a
   ·have HN := Kh (omegaP_no (t := t) (a := a) (fun hm => by have := (mayB_one.1 hm).2.2; rw [h3] at this; cases this))
    have H3 := Kh h3; clear h3
    go_enter Tryd.func22, Tryd.ntmps22
    go_wp2_with fail
    refine HV.out.mono ?_
    rintro e w1 ⟨rfl, hg1⟩
    go_wp2_with fail
    refine (vH w1 sa t.length sc a h2).mono ?_
    rintro e w2 ⟨rfl, rfl⟩
    rw [H3.out]
    go_wp2
    go_ret
    exact ⟨yH HN.out.symm, hg1⟩
   ·have hm : mayB t [a] = true := mayB_one.2 ⟨H1.out, h2, h3⟩
    obtain ⟨a', rfl, ha⟩ := setB_true h3
    have HY := Kh (omegaP_yes hm)
    have H3 := Kh h3; clear h3 hm
    go_enter Tryd.func22, Tryd.ntmps22
    go_wp2_with fail
    refine HV.out.mono ?_
    rintro e w1 ⟨rfl, hg1⟩
    have HG1 := Kh hg1
    clear hg1
    go_wp2_with fail
    refine (vH w1 sa t.length sc a' h2).mono ?_
    rintro e w2 ⟨rfl, rfl⟩
    rw [H3.out]
    go_wp2_with fail
    refine (tU B w1 _ t (by have := HG1.out.size; omega) (H.out.kept HG1.out (by simp)) H1.out h2 (hT.kept HG1.out (by simp))).mono ?_
    rintro e w2 ⟨p, go, rfl, hs, hg2⟩
    have hT2 := hT.kept (zF HG1.out hg2) (by simp)
    have HS := Kh hs; have HG2 := Kh hg2
    clear hs hg2
    go_wp2_with fail
    refine (omega_any _ _ w2 p go t.length (entN t) a' HS.out (tb_of H1.out) h2 ha hT2).mono ?_
    rintro e w3 ⟨rfl, hs3, hg3⟩
    have hlt := HS.out.go_lt'
    go_wp2
    go_ret
    exact ⟨yH HY.out.symm, zG (zF HG1.out HG2.out) hg3 (fun q e => by have : go = q := Option.some.inj e; have := HG1.out.size; omega)⟩
  ·have HN := Kh (omegaP_no (t := t) (a := a) (fun hm => h2 (mayB_one.1 hm).2.1))
   go_enter Tryd.func22, Tryd.ntmps22
   go_wp2_with fail
   refine HV.out.mono ?_
   rintro e w1 ⟨rfl, hg1⟩
   go_wp2
   go_ret
   exact ⟨yH HN.out.symm, hg1⟩
 ·have hb : (yZ t != 0) = true := by rw [bne_iff_ne]; exact h1
  have HN := Kh (omegaP_no (t := t) (a := a) (fun hm => h1 (mayB_one.1 hm).1))
  clear h1
  go_enter Tryd.func22, Tryd.ntmps22
  go_wp2_with fail
  refine HV.out.mono ?_
  rintro e w1 ⟨rfl, hg1⟩
  go_wp2
  go_ret
  exact ⟨yH HN.out.symm, hg1⟩
theorem row_lit (w : World) (zs : List Int) (cs : Array Value) (hcs : cs.toList = ints zs) (n : Nat) (hn : zs.length = n) (hm : n ≤ maxLen) : Row (w.heap.size + 1) (w.alloc (.cells cs 3)) (.slice (some ⟨w.heap.size, 0, none⟩) n n) (ints zs) := by
 have ha := Arr.new w 3 cs
 rw [hcs] at ha
 exact .inr ⟨w.heap.size, 0, n, by rw [zP, hn], by omega, by rw [zP]; omega, hm, ha.row⟩
noncomputable def xD (t : List (List Int)) (im : List Int) : Int :=
 if yZ t ≠ 0 then yZ t else if wR t = -1 then 9 else if 12 < t.length then 3 else if im.length = 0 ∨ 6 < im.length then 1 else if inB t.length im then 0 else 1
theorem identI_cases (t : List (List Int)) : wR t = -1 ∨ ∃ e : Nat, wR t = e ∧ e < t.length ∧ isId t e = true := by
 unfold wR
 cases h : (List.range t.length).find? (isId t) with
 | none => exact .inl rfl
 | some e =>
  refine .inr ⟨e, rfl, ?_, List.find?_some h⟩
  have := List.mem_of_find?_eq_some h
  simpa using this
structure Good (t : List (List Int)) (im : List Int) : Prop where
 valid : yZ t = 0
 ident : ∃ e : Nat, wR t = e ∧ e < t.length ∧ isId t e = true
 le : t.length ≤ 12
 im0 : 0 < im.length
 im6 : im.length ≤ 6
 inb : inB t.length im = true
theorem checkE_good {t : List (List Int)} {im : List Int} : xD t im = 0 ↔ Good t im := by
 unfold xD
 constructor
 ·intro h
  split at h
  ·rename_i hv; exact absurd h hv
  rename_i hv
  split at h
  ·omega
  rename_i hi
  split at h
  ·omega
  split at h
  ·omega
  split at h
  ·exact ⟨by omega, (identI_cases t).resolve_left hi, by omega, by omega, by omega, by assumption⟩
  ·omega
 ·intro h
  obtain ⟨e, he, _⟩ := h.ident
  rw [if_neg (by rw [h.valid]; simp), if_neg (by omega), if_neg (by have := h.le; omega), if_neg (by have := h.im0; have := h.im6; omega), if_pos h.inb]
theorem c_valid {t : List (List Int)} {im : List Int} (h : yZ t ≠ 0) : xD t im = yZ t := by rw [xD, if_pos h]
theorem c_ident {t : List (List Int)} {im : List Int} (h : yZ t = 0) (hi : wR t = -1) : xD t im = 9 := by rw [xD, if_neg (by omega), if_pos hi]
theorem c_big {t : List (List Int)} {im : List Int} (h : yZ t = 0) (hi : ¬ wR t = -1) (hn : 12 < t.length) : xD t im = 3 := by rw [xD, if_neg (by omega), if_neg hi, if_pos hn]
theorem c_len {t : List (List Int)} {im : List Int} (h : yZ t = 0) (hi : ¬ wR t = -1) (hn : ¬ 12 < t.length) (hl : im.length = 0 ∨ 6 < im.length) : xD t im = 1 := by rw [xD, if_neg (by omega), if_neg hi, if_neg hn, if_pos hl]
theorem c_in {t : List (List Int)} {im : List Int} (h : yZ t = 0) (hi : ¬ wR t = -1) (hn : ¬ 12 < t.length) (hl : ¬ (im.length = 0 ∨ 6 < im.length)) : xD t im = if inB t.length im then 0 else 1 := by
 rw [xD, if_neg (by omega), if_neg hi, if_neg hn, if_neg hl]
set_option maxRecDepth 100000 in
set_option maxHeartbeats 800000 in
theorem check_any (B : Nat) (w : World) (v iv : Value) (t : List (List Int)) (im : List Int) (hB : B ≤ w.heap.size) (h : Mat B w v t) (hi : Row B w iv (ints im)) :
  Calls Tryd.prog 58 #[v, iv] w fun e w' => e = .returned (.int .i64 (xD t im)) ∧ w.grownBy w' none := by
 have hlm := h.len_le
 unfold maxLen at hlm
 have him := hi.len_le
 rw [zP] at him
 unfold maxLen at him
 have H := Kh h; have HI := Kh hi
 have hv := validate_any B w v t hB h
 have HV := Kh hv
 obtain ⟨sa, sc, rfl⟩ := h.shape
 obtain ⟨ia, ic, rfl⟩ := hi.shape
 rw [zP]
 clear h hv hi
 by_cases h1 : yZ t = 0
 ·rw [h1] at HV
  have H1 := Kh h1
  have HID : ∀ W, w.grownBy W none → Hid (Calls Tryd.prog 71 #[.slice sa t.length sc] W fun e w' => e = .returned (.int .i64 (wR t)) ∧ W.grownBy w' none) := fun W hW => by
   have := identity_any B W _ t (by have := hW.size; omega) (H.out.kept hW (by simp))
   rw [identE_valid h1] at this
   exact Kh this
  clear h1
  rcases identI_cases t with h2 | ⟨e0, h2, he0, hei⟩
  ·have HC := Kh (c_ident (im := im) H1.out h2)
   rw [h2] at HID
   clear h2
   go_enter Tryd.func58, Tryd.ntmps58
   go_wp2_with fail
   refine HV.out.mono ?_
   rintro e w1 ⟨rfl, hg1⟩
   go_wp2_with fail
   refine (HID w1 hg1).out.mono ?_
   rintro e w2 ⟨rfl, hg2⟩
   go_wp2
   go_ret
   exact ⟨yH HC.out.symm, zF hg1 hg2⟩
  ·have h2' : ¬ wR t = -1 := by omega
   have H2 := Kh h2'
   rw [h2] at HID
   clear h2 h2' hei
   by_cases h3 : 12 < t.length
   ·have HC := Kh (c_big (im := im) H1.out H2.out h3)
    go_enter Tryd.func58, Tryd.ntmps58
    go_wp2_with fail
    refine HV.out.mono ?_
    rintro e w1 ⟨rfl, hg1⟩
    go_wp2_with fail
    refine (HID w1 hg1).out.mono ?_
    rintro e w2 ⟨rfl, hg2⟩
    go_wp2
    go_ret
    exact ⟨yH HC.out.symm, zF hg1 hg2⟩
   ·by_cases h4 : im.length = 0 ∨ 6 < im.length
    ·have HC := Kh (c_len (im := im) H1.out H2.out h3 h4)
     rcases h4 with h4 | h4
     ·have e4 : ((im.length : Int) == 0) = true := by rw [h4]; rfl
      have H4 := Kh h4; clear h4
      go_enter Tryd.func58, Tryd.ntmps58
      go_wp2_with fail
      refine HV.out.mono ?_
      rintro e w1 ⟨rfl, hg1⟩
      go_wp2_with fail
      refine (HID w1 hg1).out.mono ?_
      rintro e w2 ⟨rfl, hg2⟩
      go_wp2
      go_ret
      exact ⟨yH HC.out.symm, zF hg1 hg2⟩
     ·have e4 : ((im.length : Int) == 0) = false := by rw [beq_eq_false_iff_ne]; omega
      go_enter Tryd.func58, Tryd.ntmps58
      go_wp2_with fail
      refine HV.out.mono ?_
      rintro e w1 ⟨rfl, hg1⟩
      go_wp2_with fail
      refine (HID w1 hg1).out.mono ?_
      rintro e w2 ⟨rfl, hg2⟩
      go_wp2
      go_ret
      exact ⟨yH HC.out.symm, zF hg1 hg2⟩
    ·have HC := Kh (c_in (im := im) H1.out H2.out h3 h4)
     have e4 : ((im.length : Int) == 0) = false := by rw [beq_eq_false_iff_ne]; omega
     have h5 : im.length ≤ 6 := by omega
     have h6 : 0 < im.length := by omega
     clear h4
     go_enter Tryd.func58, Tryd.ntmps58
     go_wp2_with fail
     refine HV.out.mono ?_
     rintro e w1 ⟨rfl, hg1⟩
     go_wp2_with fail
     refine (HID w1 hg1).out.mono ?_
     rintro e w2 ⟨rfl, hg2⟩
     have hgw := zF hg1 hg2
     obtain ⟨ib, io, icc, e, _, _, _, hra⟩ := (HI.out.kept hgw (by simp)).some_ (by rw [zP]; exact h6)
     simp only [Value.slice.injEq] at e
     obtain ⟨rfl, -, -⟩ := e
     have RA := Kh hra
     clear hra hg1 hg2
     go_wp2
     go_loopg [29] im.length (fun g i wr => ∃ k : Nat, g + k = im.length ∧ i = .int .i64 k ∧ EntsOk t.length im k ∧ w2 = wr)
     case atStart => exact ⟨0, rfl, rfl, fun x hx => absurd hx (by omega), rfl⟩
     case round =>
      obtain ⟨y, hg, rfl, hok, rfl⟩ := hrel
      have OKY := Kh hok; have HG2 := Kh hg; clear hok hg
      by_cases hy : y < im.length
      ·have hcy := RA.out.int y hy
       obtain ⟨z, hz⟩ : ∃ z, z = im.getD y 0 := ⟨_, rfl⟩
       rw [← hz] at hcy
       have HZ := Kh hz; clear hz
       by_cases hb1 : z < 0
       ·have HN : Hid (inB t.length im = false) := Kh (inB_bad hy (by rw [← HZ.out]; exact .inl hb1))
        go_wp2
        go_ret
        exact ⟨yH (by rw [HC.out, HN.out]; rfl), hgw⟩
       ·by_cases hb2 : (t.length : Int) ≤ z
        ·have HN : Hid (inB t.length im = false) := Kh (inB_bad hy (by rw [← HZ.out]; exact .inr hb2))
         go_wp2
         go_ret
         exact ⟨yH (by rw [HC.out, HN.out]; rfl), hgw⟩
        ·go_wp2
         go_roundg (im.length - (y + 1))
         case measure => have := HG2.out; omega
         case rel =>
          refine ⟨y + 1, by omega, by go_num, fun x hx => ?_, rfl⟩
          rcases Nat.lt_succ_iff_lt_or_eq.1 hx with hx | rfl
          ·exact OKY.out x hx
          ·rw [← HZ.out]; omega
      ·have HY : Hid (inB t.length im = true) := Kh (inB_iff.2 (fun x hx => OKY.out x (by omega)))
       go_wp2
       go_ret
       exact ⟨yH (by rw [HC.out, HY.out]; rfl), hgw⟩
 ·have hb : (yZ t != 0) = true := by rw [bne_iff_ne]; exact h1
  have HC := Kh (c_valid (im := im) h1)
  clear h1
  go_enter Tryd.func58, Tryd.ntmps58
  go_wp2_with fail
  refine HV.out.mono ?_
  rintro e w1 ⟨rfl, hg1⟩
  go_wp2
  go_ret
  exact ⟨yH HC.out.symm, hg1⟩
theorem xX (w : World) (n : Int) :
  Calls Tryd.prog 80 #[.int .i64 n] w fun e w' => e = .returned (.bool (decide (1 ≤ n ∧ n ≤ 6))) ∧ w = w' := by
 by_cases h : 1 ≤ n
 ·go_enter Tryd.func80, Tryd.ntmps80
  go_wp2
  go_ret
  exact ⟨xK (by simp [h]), rfl⟩
 ·go_enter Tryd.func80, Tryd.ntmps80
  go_wp2
  go_ret
  exact ⟨xK (by simp; omega), rfl⟩
end Go.Proofs.YtdjhoadoiknaoaaDoor
