/- Part 15 of the proof: Both, VFam, Closure. -/
import Derived.Test.YtdjhoadoiknaoaaDoorZp14
set_option linter.unusedVariables false
set_option linter.unusedSimpArgs false
namespace Go.Proofs.YtdjhoadoiknaoaaDoor
open Go.RowKit
def bothN (p q : List Nat) : List Nat := List.zipWith (fun a b => a * (p.length + 1) + b) p q
theorem bothN_length {p q : List Nat} (h : q.length = p.length) : (bothN p q).length = p.length := by simp [bothN, h]
theorem bothN_ints {p q : List Nat} : nats (bothN p q) = ints (bothL p q) := by
 rw [uE]
 congr 1
 simp only [bothN, bothL, List.map_zipWith]
 congr 1
theorem bothN_get {p q : List Nat} (h : q.length = p.length) {k : Nat} (hk : k < p.length) : (bothN p q).getD k 0 = p.getD k 0 * (p.length + 1) + q.getD k 0 := by
 rw [zT (by rw [bothN_length h]; exact hk), zT hk, zT (by omega)]
 simp [bothN]
theorem bothL_mid {p q : List Nat} (hp : ∀ c ∈ p, c < 100000) (hq : ∀ c ∈ q, c < 100000) (hl : p.length ≤ 100000) : ∀ x ∈ bothL p q, Mid x := by
 intro x hx
 obtain ⟨i, hi, rfl⟩ := List.getElem_of_mem hx
 simp only [bothL, List.getElem_zipWith, pairNo]
 have h1 := hp _ (List.getElem_mem (l := p) (n := i) (by simp [bothL] at hi; omega))
 have h2 := hq _ (List.getElem_mem (l := q) (n := i) (by simp [bothL] at hi; omega))
 generalize p[i]'(by simp [bothL] at hi; omega) = a at h1 ⊢
 generalize q[i]'(by simp [bothL] at hi; omega) = b at h2 ⊢
 have : a * (p.length + 1) ≤ 100000 * 100001 := Nat.mul_le_mul (by omega) (by omega)
 have e : (a : Int) * ((p.length : Int) + 1) + b = ((a * (p.length + 1) + b : Nat) : Int) := by push_cast; rfl
 rw [e]
 constructor <;> omega
theorem wrap_both {a m X b : Nat} (hX : X = a * (m + 1)) (hXl : X ≤ 10000100000) (hb : b < 100000) : wrap64 (wrap64 ((a : Int) * ((m : Int) + 1)) + (b : Int)) = ((X + b : Nat) : Int) := by
 have hXc : (a : Int) * ((m : Int) + 1) = (X : Int) := by rw [hX]; push_cast; rfl
 clear hX
 rw [hXc]
 have h9 : wrap64 (X : Int) = (X : Int) := IntWalk.wrap64_in _ (by omega)
 rw [h9, ← Int.natCast_add]
 exact IntWalk.wrap64_in _ (by omega)
set_option maxRecDepth 100000 in
set_option maxHeartbeats 800000 in
theorem both_any (B C : Nat) (w : World) (va vb : Value) (p q : List Nat) (hB : B ≤ w.heap.size) (hC : C ≤ w.heap.size) (ha : Row B w va (nats p)) (hb : Row C w vb (nats q)) (hl : q.length = p.length) (h0 : 0 < p.length) (hp : ∀ c ∈ p, c < 100000) (hq : ∀ c ∈ q, c < 100000) (hle : p.length ≤ 100000) :
  Calls Tryd.prog 102 #[va, vb] w (NumOk w (both8 p q)) := by
 obtain ⟨pb, po, pc, rfl, hpB, hpc1, hpc2, hra⟩ := ha.some_ (by rw [zL]; exact h0)
 obtain ⟨qb, qo, qc, rfl, hqC, hqc1, hqc2, hrb⟩ := hb.some_ (by rw [zL]; omega)
 rw [zL] at hpc1 hqc1 ⊢
 rw [zL, hl]
 rw [hl] at hqc1
 have hmx1 : pc ≤ 9223372036854775807 := by unfold maxLen at hpc2; omega
 have hmx2 : qc ≤ 9223372036854775807 := by unfold maxLen at hqc2; omega
 have RA := Kh hra; have RB := Kh hrb; have HL := Kh hl; have HP := Kh hp; have HQ := Kh hq
 have HMID := Kh (bothL_mid hp hq hle)
 clear hra hrb hl hp hq ha hb
 go_enter Tryd.func102, Tryd.ntmps102
 go_wp2_with (first | (at_make; refine make1 rfl _ _ _ rfl yD rfl .i64 .i64 _ _ p.length rfl rfl rfl rfl ?b1 ?b2 ?_) | fail)
 case b1 => omega
 case b2 => unfold maxLen; omega
 intro w2 harr hg2 hlt2
 have HA2 := Kh harr; have HG2 := Kh hg2
 clear harr hg2
 obtain ⟨g, hg⟩ : ∃ g, g = w.heap.size := ⟨_, rfl⟩
 have HGE := Kh hg
 rw [← hg] at HA2 hlt2 hB hC ⊢
 clear hg
 go_wp2
 go_loopg [6, 12] p.length (fun gh a6 i wr => ∃ k : Nat, gh + k = p.length ∧ i = .int .i64 k ∧ Arr wr g 3 (nats (wT (bothN p q) k)) ∧ w.grownBy wr none)
 case atStart => exact ⟨0, rfl, rfl, by rw [tX, bothN_length HL.out, xW]; exact HA2.out, HG2.out⟩
 case round =>
  clear HA2 HG2
  obtain ⟨k, hg, rfl, harr, hgr⟩ := hrel
  have HG := Kh hg; have HA := Kh harr; have HGR := Kh hgr
  have hln : (bothN p q).length = p.length := bothN_length HL.out
  clear hg
  by_cases hk : k < p.length
  ·have hk' : (k : Int) < p.length := by omega
   have ca := (RA.out.kept hgr (by simp)).nat k hk
   have cb := (RB.out.kept hgr (by simp)).nat k (by rw [HL.out]; exact hk)
   have hset := fillTo_set (l := bothN p q) (k := k) (by omega)
   rw [bothN_get HL.out hk] at hset
   have hpk := getD_lt_of (i := k) HP.out (by omega)
   have hqk := getD_lt_of (i := k) HQ.out (by omega)
   have cgk := harr.nat k (by rw [yQ (by omega)]; omega)
   have fgk := harr.frozen k
   obtain ⟨a, ha⟩ : ∃ a, a = p.getD k 0 := ⟨_, rfl⟩
   obtain ⟨b, hb⟩ : ∃ b, b = q.getD k 0 := ⟨_, rfl⟩
   rw [← ha] at ca hset hpk
   rw [← hb] at cb hset hqk
   obtain ⟨X, hX⟩ : ∃ X, X = a * (p.length + 1) := ⟨_, rfl⟩
   have hXl : X ≤ 10000100000 := by
    have h8 : a * (p.length + 1) ≤ 100000 * 100001 := Nat.mul_le_mul (by omega) (by omega)
    omega
   rw [← hX] at hset
   have hw := wrap_both hX hXl hqk
   have HW := Kh hw
   have HS := Kh hset
   have ca' : wr.drew.cell? ⟨pb, po + k, none⟩ = some (.int .i64 (a : Int)) := ca
   have cb' : wr.drew.cell? ⟨qb, qo + k, none⟩ = some (.int .i64 (b : Int)) := cb
   have hpg : pb ≠ g := by omega
   have hqg : qb ≠ g := by omega
   have HS1 : Hid (∀ u, ((wr.setCell ⟨g, k, none⟩ u).drew.cell? ⟨pb, po + k, none⟩ = some (.int .i64 (a : Int)))) := Kh (fun u => by
    show (wr.setCell ⟨g, k, none⟩ u).cell? ⟨pb, po + k, none⟩ = _
    rw [World.cell?_of_block ((zH wr ⟨g, k, none⟩ u).block pb (by have := hgr.size; have := HGE.out; omega) (by simp; omega))]; exact ca)
   have HS2 : Hid (∀ u, ((wr.setCell ⟨g, k, none⟩ u).drew.cell? ⟨qb, qo + k, none⟩ = some (.int .i64 (b : Int)))) := Kh (fun u => by
    show (wr.setCell ⟨g, k, none⟩ u).cell? ⟨qb, qo + k, none⟩ = _
    rw [World.cell?_of_block ((zH wr ⟨g, k, none⟩ u).block qb (by have := hgr.size; have := HGE.out; omega) (by simp; omega))]; exact cb)
   clear ha hb hset hgr harr hX hw
   go_upto_region 5 with fail
   go_region_held3 (fun w' => w'.cell? ⟨pb, po + k, none⟩ = some (.int .i64 (a : Int)) ∧ w'.cell? ⟨qb, qo + k, none⟩ = some (.int .i64 (b : Int))) (first | exact ⟨ca', cb'⟩ | exact ⟨HS1.out _, HS2.out _⟩ | go_keep | fail) (fail)
   all_goals
    clear ca ca' cb cb' HS1 HS2 cgk fgk
    go_wp2
    go_roundg (p.length - (k + 1))
    case measure => have := HG.out; omega
    case rel =>
     refine ⟨k + 1, by omega, by go_num, ?_, ?_⟩
     ·rw [← HS.out]
      have h1 := HA.out.nat_set k (by rw [yQ (by omega)]; omega) (X + b)
      rw [HW.out]
      exact h1.of_heap rfl
     ·exact yT (zG HGR.out (zH wr ⟨g, k, none⟩ _) (fun q e => by have h7 : g = q := Option.some.inj e; have := HGE.out; omega)) rfl rfl rfl rfl
  ·have hkl : k = p.length := by have := HG.out; omega
   have HE : Hid (wT (bothN p q) k = bothN p q) := Kh (by rw [hkl, ← hln]; exact fillTo_end _)
   clear hkl harr
   go_wp2_with fail
   rw [HE.out] at HA
   have HN := Kh (number_any (g + 1) wr (.slice (some ⟨g, 0, none⟩) p.length p.length) (bothL p q) HA.out.lt (by
    rw [← bothN_ints]
    exact .inr ⟨g, 0, p.length, by rw [zL, hln], by omega, by rw [zL, hln]; exact Nat.le_refl _, by unfold maxLen; omega, HA.out.row⟩) HMID.out (by rw [sS HL.out]; exact hle))
   go_wp2_with fail
   refine HN.out.mono ?_
   rintro e w5 ⟨g5, rfl, hg5, ha5, hgr5⟩
   have hb8 : numb (bothL p q) = both8 p q := rfl
   have HA5 := Kh ha5; have HG5 := Kh hgr5
   clear ha5 hgr5
   go_wp2
   go_ret
   refine ⟨g5, rfl, ?_, HA5.out, zF HGR.out HG5.out⟩
   have := HGR.out.size
   omega
set_option maxHeartbeats 800000 in
theorem validFamily_any (B : Nat) (w : World) (v sv : Value) (t : List (List Int)) (zs : List Int) (hB : B ≤ w.heap.size) (h : Mat B w v t) (hz : Row B w sv (ints zs)) (hv : yZ t = 0) (hle : t.length ≤ 12) (hT : TabOk w) :
  Calls Tryd.prog 64 #[v, sv] w fun e w' => e = .returned (.bool (famB t.length zs)) ∧ w.grownBy w' none := by
 have HN := Kh (tU B w v t hB h hv hle hT)
 have hzl := hz.len_le
 rw [zP] at hzl
 unfold maxLen at hzl
 obtain ⟨ta, tc, rfl⟩ := h.shape
 obtain ⟨za, zc, rfl⟩ := hz.shape
 rw [zP] at hz ⊢
 have HZ := Kh hz
 clear h hv hT
 by_cases h0 : zs.length = 0
 ·have HF := Kh (famB_nil (n := t.length) h0)
  go_enter Tryd.func64, Tryd.ntmps64
  go_wp2
  go_ret
  exact ⟨xK HF.out.symm, zU _ _⟩
 ·have e0 : ((zs.length : Int) == 0) = false := by rw [beq_eq_false_iff_ne]; omega
  obtain ⟨ib, io, icc, e, _, _, _, hra⟩ := hz.some_ (by rw [zP]; omega)
  simp only [Value.slice.injEq] at e
  obtain ⟨rfl, -, -⟩ := e
  have RA := Kh hra
  clear hra hz
  go_enter Tryd.func64, Tryd.ntmps64
  go_wp2
  go_loopg [12] zs.length (fun g i wr => ∃ k : Nat, g + k = zs.length ∧ i = .int .i64 k ∧ famTo t.length zs k = true ∧ w = wr)
  case atStart => exact ⟨0, rfl, rfl, rfl, rfl⟩
  case round =>
   obtain ⟨y, hg, rfl, hok, rfl⟩ := hrel
   have OKY := Kh hok; have HG2 := Kh hg; clear hok hg
   by_cases hy : y < zs.length
   ·have hcy := RA.out.int y hy
    obtain ⟨z, hz⟩ : ∃ z, z = zs.getD y 0 := ⟨_, rfl⟩
    rw [← hz] at hcy
    have HZY := Kh hz; clear hz
    by_cases hb1 : z = 0
    ·have HF : Hid (famB t.length zs = false) := Kh (famB_no (famTo_no (i := y) (by rw [famAt_is HZY.out rfl, hb1]; rfl) hy))
     subst hb1
     go_wp2
     go_ret
     exact ⟨xK HF.out.symm, zU _ _⟩
    ·have e1 : (z == 0) = false := by rw [beq_eq_false_iff_ne]; exact hb1
     cases hs : setB t.length z with
     | false =>
      have HF : Hid (famB t.length zs = false) := Kh (famB_no (famTo_no (i := y) (by rw [famAt_is HZY.out rfl, hs]; simp) hy))
      go_wp2_with fail
      refine (vH w ta t.length tc z hle).mono ?_
      rintro e w1 ⟨rfl, rfl⟩
      rw [hs]
      go_wp2
      go_ret
      exact ⟨xK HF.out.symm, zU _ _⟩
     | true =>
      have HS := Kh hs
      clear hs
      rcases y with _ | x
      ·have hcy0 : w.cell? ⟨ib, io, none⟩ = some (.int .i64 z) := hcy
       have HF : Hid (famTo t.length zs (0 + 1) = true) := Kh (by rw [famTo_succ, OKY.out, famAt_is HZY.out rfl, HS.out]; simp [hb1])
       go_wp2_with fail
       refine (vH w ta t.length tc z hle).mono ?_
       rintro e w1 ⟨rfl, rfl⟩
       rw [HS.out]
       go_wp2
       go_roundg (zs.length - 1)
       case measure => have := HG2.out; omega
       case rel => exact ⟨0 + 1, by omega, by go_num, HF.out, rfl⟩
      ·have hcx := RA.out.int x (by omega)
       obtain ⟨u, hu⟩ : ∃ u, u = zs.getD x 0 := ⟨_, rfl⟩
       rw [← hu] at hcx
       have HU := Kh hu; clear hu
       by_cases hlt : u < z
       ·have HF : Hid (famTo t.length zs (x + 1 + 1) = true) := Kh (by rw [famTo_succ, OKY.out, famAt_is HZY.out HU.out, HS.out]; simp [hb1, hlt])
        go_wp2_with fail
        refine (vH w ta t.length tc z hle).mono ?_
        rintro e w1 ⟨rfl, rfl⟩
        rw [HS.out]
        go_wp2
        go_roundg (zs.length - (x + 1 + 1))
        case measure => have := HG2.out; omega
        case rel => exact ⟨x + 1 + 1, by omega, by go_num, HF.out, rfl⟩
       ·have HF : Hid (famB t.length zs = false) := Kh (famB_no (famTo_no (i := x + 1) (by rw [famAt_is HZY.out HU.out, HS.out]; simp [hlt]) hy))
        go_wp2_with fail
        refine (vH w ta t.length tc z hle).mono ?_
        rintro e w1 ⟨rfl, rfl⟩
        rw [HS.out]
        go_wp2
        go_ret
        exact ⟨xK HF.out.symm, zU _ _⟩
   ·have hyl : y = zs.length := by have := HG2.out; omega
    have HFT : Hid (famTo t.length zs zs.length = true) := Kh (by rw [← hyl]; exact OKY.out)
    have HF := Kh (famB_eq (n := t.length) (by omega) HFT.out)
    clear hyl
    go_wp2_with fail
    refine HN.out.mono ?_
    rintro e w2 ⟨p, go, rfl, hs2, hg2⟩
    have hrz := HZ.out.kept hg2 (by simp)
    rw [ints_natL HFT.out] at hrz
    have hz2 := hg2.size
    have HM := Kh (maximal_any w.heap.size w2.heap.size w2 p go t.length (entN t) _ B (natL zs) hs2 hle hrz (natL_lt HFT.out) (by omega))
    have HG2' := Kh hg2
    clear hs2 hrz hg2
    go_wp2_with fail
    refine HM.out.mono ?_
    rintro e w4 ⟨sa4, sc4, rfl, hown4, hg4⟩
    have HG4 := Kh hg4
    clear hown4 hg4
    go_wp2
    go_ret
    exact ⟨xK (by rw [HF.out, Bool.eq_iff_iff, beq_iff_eq, decide_eq_true_eq]; omega), zF HG2'.out HG4.out⟩
theorem fam_set {w : World} {b : Nat} {x y : Value} {e : Nat} (h : w.heap[b]? = some (.cells #[x, y] e (0, 0))) (x' y' : Value) :
  ((w.setCell ⟨b, 0, none⟩ x').setCell ⟨b, 1, none⟩ y').heap[b]? = some (.cells #[x', y'] e (0, 0)) := by
 have h1 := heap_setCell_same w b 0 _ _ x' h
 have h2 := heap_setCell_same _ b 1 _ _ y' h1
 rw [h2]; simp
set_option maxHeartbeats 800000 in
theorem closure_any (B : Nat) (w : World) (v iv : Value) (t : List (List Int)) (im : List Int) (hB : B ≤ w.heap.size) (h : Mat B w v t) (hi : Row B w iv (ints im)) (hT : TabOk w) :
  Calls Tryd.prog 16 #[v, iv] w (ClosureOk w t im) := by
 have HBG := Kh (begin_any B w v iv t im hB h hi hT)
 have H := Kh h; have HI := Kh hi; have HT := Kh hT
 clear h hi hT
 go_enter Tryd.func16, Tryd.ntmps16
 go_wp2_with fail
 refine HBG.out.mono ?_
 rintro e w1 ⟨hg1, hc⟩
 have HG1 := Kh hg1
 have hz1 := hg1.size
 clear HBG hg1
 rcases hc with ⟨hz, rfl⟩ | ⟨hz, sa, sc, rfl, hown⟩
 ·obtain ⟨E, hE⟩ : ∃ E, E = xD t im := ⟨_, rfl⟩
  rw [← hE] at hz ⊢
  have HE := Kh hE
  have e1 : (E != 0) = true := by rw [bne_iff_ne]; exact hz
  clear hE
  go_wp2
  refine bodyPost_ret (v := .tuple #[.slice none 0 0, .int .i64 E]) (by simp [results, Tryd.results16, go_sem]) rfl ?_
  exact ⟨zG HG1.out (World.grownBy_alloc _ _ none) (by simp), .inl ⟨by rw [← HE.out]; exact hz, by rw [← HE.out]⟩⟩
 ·have hgd := checkE_good.1 hz
  have HGD := Kh hgd; have HZ := Kh hz
  have hle := hgd.le
  have hva := hgd.valid
  have HTB := Kh (tb_of hva)
  have HVA := Kh hva
  have hpos := start_pos hgd
  obtain ⟨k0, rfl, hsc1, hsc2, harr⟩ := yK hown hpos
  have hkl := hown.lt k0 rfl
  obtain ⟨l0, hl0⟩ : ∃ l0, l0 = tI t im := ⟨_, rfl⟩
  rw [← hl0] at hpos hown hsc1 harr ⊢
  have HOWN := Kh hown
  have HL0 := Kh hl0
  have HF0 : Hid (FamOk t.length (l0, false)) := Kh (by rw [hl0]; exact start_ok hgd)
  clear hown harr hl0 hgd hva hz
  go_wp2_with fail
  obtain ⟨wA, hWA⟩ : ∃ wA, wA = w1.alloc (.cells #[.slice (some ⟨k0, 0, none⟩) l0.length sc, .bool false] 49) := ⟨_, rfl⟩
  have hrb : wA.heap[w1.heap.size]? = some (.cells #[.slice (some ⟨k0, 0, none⟩) l0.length sc, .bool false] 49 (0, 0)) := by rw [hWA]; exact heap_alloc_new w1 _
  have hgA : w1.grownBy wA none := by rw [hWA]; exact World.grownBy_alloc w1 _ none
  have hzA : wA.heap.size = w1.heap.size + 1 := by rw [hWA, zM]
  rw [← hWA]
  have HGA := Kh (zF HG1.out hgA); have HRA := Kh hrb
  have HO := Kh (zX HOWN.out hgA (by simp))
  have HTA := Kh (HT.out.kept HGA.out (by simp))
  have hgt0 := HT.out.1
  have hgt : 1 < wA.heap.size := by omega
  refine (tU B wA v t (by omega) (H.out.kept HGA.out (by simp)) HVA.out hle HTA.out).mono ?_
  rintro e w2 ⟨p, go, rfl, hs2, hg2⟩
  have hz2 := hg2.size
  have HS2 := Kh hs2
  have HHE : Hid (Held wA.heap.size w2.heap.size w1.heap.size w2 k0 sc l0) := Kh (Held.of_owns (zX HO.out hg2 (by simp)) hpos (.inl (by omega)) (by omega))
  have HRB := Kh (zE hrb hg2 (by simp))
  have HGR := Kh (zF HGA.out hg2)
  have HT2 := Kh (HTA.out.kept hg2 (by simp))
  have HGO : Hid (Going t.length (entN t) l0 l0 false) := Kh ⟨HF0.out, 0, rfl⟩
  clear hWA hrb hgA HRA HO hs2 hg2 HOWN HTA HG1
  go_wp2_with fail
  go_loopg [] (togo t.length l0 false) (fun gh wr => ∃ (k sc : Nat) (l : List Nat) (d : Bool), gh = togo t.length l d ∧ Going t.length (entN t) l0 l d ∧ 0 < l.length ∧ Held wA.heap.size w2.heap.size w1.heap.size wr k sc l ∧ wD wA.heap.size w2.heap.size wr p go t.length (entN t) ∧ w2.heap.size ≤ wr.heap.size ∧ TabOk wr ∧ w.grownBy wr none ∧ wr.heap[w1.heap.size]? = some (.cells #[.slice (some ⟨k, 0, none⟩) l.length sc, .bool d] 49 (0, 0)))
  case atStart => exact ⟨k0, sc, l0, false, rfl, HGO.out, hpos, HHE.out, HS2.out, Nat.le_refl _, HT2.out, HGR.out, HRB.out⟩
  case round =>
   clear HGO HHE HS2 HT2 HGR HRB hsc1 hsc2
   obtain ⟨k, sc, l, d, hg, hgo, hl0, hhe, hs, hzr, hT, hgr, hrb⟩ := hrel
   have HG := Kh hg; have HGO := Kh hgo; have HHE := Kh hhe; have HS := Kh hs; have HTR := Kh hT; have HGR := Kh hgr; have HRB := Kh hrb
   have cr0 := zI hrb 0 (by simp)
   have cr1 := zI hrb 1 (by simp)
   have fr0 := zD hrb 0
   have fr1 := zD hrb 1
   simp only [List.getElem_toArray, List.getElem_cons_zero, List.getElem_cons_succ] at cr0 cr1
   clear hg hgo hhe hs hT hgr hrb
   cases d with
   | false =>
    go_wp2_with fail
    have hgl := HS.out.go_lt
    have hll := HGO.out.le
    have hp4 := tJ hle
    refine (round_any wA.heap.size w2.heap.size wr.heap.size wr p go t.length (entN t) _ false l HS.out HTB.out hle HHE.out.rowO hl0 HGO.out.1.1 (by omega) (Nat.le_refl _) hzr hgt HTR.out).mono ?_
    rintro e w3 ⟨sa3, sc3, rfl, hown3, hs3, hg3⟩
    have hpos3 := round_ne HTB.out HGO.out.1.1 hl0
    obtain ⟨k3, rfl, hc1, hc2, _⟩ := yK hown3 hpos3
    have hk3 := hown3.lt k3 rfl
    have HM : Hid (togo t.length (zZ t.length (entN t) l) (decide (zZ t.length (entN t) l = l)) < togo t.length l false) := Kh (HGO.out.less HTB.out)
    have HGN := Kh (HGO.out.step HTB.out)
    obtain ⟨R, hR⟩ : ∃ R, R = zZ t.length (entN t) l := ⟨_, rfl⟩
    obtain ⟨D, hD⟩ : ∃ D, D = decide (zZ t.length (entN t) l = l) := ⟨_, rfl⟩
    rw [← hD, ← hR] at HM HGN
    rw [← hD]
    rw [← hR] at hown3 hpos3 hc1 ⊢
    have hr3 := zE HRB.out hg3 (fun e => by have : go = w1.heap.size := Option.some.inj e; omega)
    have HR3 := Kh hr3
    have cr0' := zI hr3 0 (by simp)
    have cr1' := zI hr3 1 (by simp)
    have fr0' := zD hr3 0
    have fr1' := zD hr3 1
    simp only [List.getElem_toArray, List.getElem_cons_zero, List.getElem_cons_succ] at cr0' cr1'
    have HH3 : Hid (Held wA.heap.size w2.heap.size w1.heap.size w3 k3 sc3 R) := Kh (Held.of_owns hown3 hpos3 (.inr (by omega)) (by omega))
    have HS3 := Kh hs3
    have HT3 := Kh (HTR.out.kept hg3 (fun e => by have := Option.some.inj e; omega))
    have hz3 := hg3.size
    have HG3 : Hid (w.grownBy w3 none) := Kh (zG HGR.out hg3 (fun x e => by have : go = x := Option.some.inj e; omega))
    clear hown3 hs3 hg3 hr3 hR hD cr0 cr1 fr0 fr1
    go_wp2
    have hs5 : w3.grownBy ((w3.setCell ⟨w1.heap.size, 0, none⟩ (.slice (some ⟨k3, 0, none⟩) R.length sc3)).setCell ⟨w1.heap.size, 1, none⟩ (.bool D)) (some w1.heap.size) :=
     zF (zH w3 ⟨w1.heap.size, 0, none⟩ _) (zH (w3.setCell ⟨w1.heap.size, 0, none⟩ (.slice (some ⟨k3, 0, none⟩) R.length sc3)) ⟨w1.heap.size, 1, none⟩ _)
    have HR5 := Kh (fam_set HR3.out (.slice (some ⟨k3, 0, none⟩) R.length sc3) (.bool D))
    have HG5 := Kh hs5
    clear hs5
    go_roundg (togo t.length R D)
    case measure => rw [HG.out]; exact HM.out
    case rel => exact ⟨k3, sc3, R, D, rfl, HGN.out, hpos3, HH3.out.kept HG5.out (fun e => by have : w1.heap.size = k3 := Option.some.inj e; omega), HS3.out.kept HG5.out (fun q e => by have : w1.heap.size = q := Option.some.inj e; omega), by have := HG5.out.size; omega, HT3.out.kept HG5.out (fun e => by have := Option.some.inj e; omega), zG HG3.out HG5.out (fun x e => by have : w1.heap.size = x := Option.some.inj e; omega), HR5.out⟩
   | true =>
    go_wp2
    refine bodyPost_ret (v := .tuple #[.slice (some ⟨k, 0, none⟩) l.length sc, .int .i64 0]) (by simp [results, Tryd.results16, go_sem]) rfl ?_
    refine ⟨HGR.out, .inr ⟨HZ.out, _, rfl, ?_⟩⟩
    have := HGO.out.stop HTB.out HF0.out
    unfold closeL
    rw [← HL0.out, ← this]
    exact HHE.out.rowO.row
end Go.Proofs.YtdjhoadoiknaoaaDoor
