/- Part 18 of the proof: Both, Closure, Advance, RAdv, DfaAt. -/
import Derived.Test.YtdjhoadoiknaoaaDoorZq17
import Derived.Deep.CutBlock
set_option linter.unusedVariables false
set_option linter.unusedSimpArgs false
namespace Go.Proofs.YtdjhoadoiknaoaaDoor
open Go.RowKit
def bothN (p q : List Nat) : List Nat := List.zipWith (fun a b => a * (p.length + 1) + b) p q
theorem bothN_length {p q : List Nat} (h : q.length = p.length) : (bothN p q).length = p.length := by simp [bothN, h]
theorem bothN_ints {p q : List Nat} : nats (bothN p q) = ints (bothL p q) := by
 rw [uL]
 congr 1
 simp only [bothN, bothL, List.map_zipWith]
 congr 1
theorem bothN_get {p q : List Nat} (h : q.length = p.length) {k : Nat} (hk : k < p.length) : (bothN p q).getD k 0 = p.getD k 0 * (p.length + 1) + q.getD k 0 := by
 rw [zN (by rw [bothN_length h]; exact hk), zN hk, zN (by omega)]
 simp [bothN]
theorem bothL_mid {p q : List Nat} (hp : ∀ c ∈ p, c < 100000) (hq : ∀ c ∈ q, c < 100000) (hl : p.length ≤ 100000) : ∀ x ∈ bothL p q, Mid x := by
 intro x hx
 obtain ⟨i, hi, rfl⟩ := List.getElem_of_mem hx
 simp only [bothL, List.getElem_zipWith, pairNo]
 have h1 := hp _ (List.getElem_mem (l := p) (n := i) (by simp [bothL] at hi; omega))
 have h2 := hq _ (List.getElem_mem (l := q) (n := i) (by simp [bothL] at hi; omega))
 generalize p[i]'(by simp [bothL] at hi; omega) = a at h1 ⊢
 generalize q[i]'(by simp [bothL] at hi; omega) = b at h2 ⊢
 have : a * (p.length + 1) ≤ 100000 * 100001 := Nat.mul_le_mul (by omega) (by omega)
 have e : (a : Int) * ((p.length : Int) + 1) + b = ((a * (p.length + 1) + b : Nat) : Int) := by push_cast; rfl
 rw [e]
 constructor <;> omega
theorem wrap_both {a m X b : Nat} (hX : X = a * (m + 1)) (hXl : X ≤ 10000100000) (hb : b < 100000) : wrap64 (wrap64 ((a : Int) * ((m : Int) + 1)) + (b : Int)) = ((X + b : Nat) : Int) := by
 have hXc : (a : Int) * ((m : Int) + 1) = (X : Int) := by rw [hX]; push_cast; rfl
 clear hX
 rw [hXc]
 have h9 : wrap64 (X : Int) = (X : Int) := IntWalk.wrap64_in _ (by omega)
 rw [h9, ← Int.natCast_add]
 exact IntWalk.wrap64_in _ (by omega)
set_option maxRecDepth 100000 in
set_option maxHeartbeats 800000 in
theorem both_any (B C : Nat) (w : World) (va vb : Value) (p q : List Nat) (hB : B ≤ w.heap.size) (hC : C ≤ w.heap.size) (ha : Row B w va (nats p)) (hb : Row C w vb (nats q)) (hl : q.length = p.length) (h0 : 0 < p.length) (hp : ∀ c ∈ p, c < 100000) (hq : ∀ c ∈ q, c < 100000) (hle : p.length ≤ 100000) :
  Calls Tryd.prog 102 #[va, vb] w (NumOk w (both8 p q)) := by
 obtain ⟨pb, po, pc, rfl, hpB, hpc1, hpc2, hra⟩ := ha.some_ (by rw [zL]; exact h0)
 obtain ⟨qb, qo, qc, rfl, hqC, hqc1, hqc2, hrb⟩ := hb.some_ (by rw [zL]; omega)
 rw [zL] at hpc1 hqc1 ⊢
 rw [zL, hl]
 rw [hl] at hqc1
 have hmx1 : pc ≤ 9223372036854775807 := by unfold maxLen at hpc2; omega
 have hmx2 : qc ≤ 9223372036854775807 := by unfold maxLen at hqc2; omega
 have RA := Kh hra; have RB := Kh hrb; have HL := Kh hl; have HP := Kh hp; have HQ := Kh hq
 have HMID := Kh (bothL_mid hp hq hle)
 clear hra hrb hl hp hq ha hb
 go_enter Tryd.func102, Tryd.ntmps102
 go_wp2_with (first | (at_make; refine make1 rfl _ _ _ rfl yD rfl .i64 .i64 _ _ p.length rfl rfl rfl rfl ?b1 ?b2 ?_) | fail)
 case b1 => omega
 case b2 => unfold maxLen; omega
 intro w2 harr hg2 hlt2
 have HA2 := Kh harr; have HG2 := Kh hg2
 clear harr hg2
 obtain ⟨g, hg⟩ : ∃ g, g = w.heap.size := ⟨_, rfl⟩
 have HGE := Kh hg
 rw [← hg] at HA2 hlt2 hB hC ⊢
 clear hg
 go_wp2
 go_loopg [6, 12] p.length (fun gh a6 i wr => ∃ k : Nat, gh + k = p.length ∧ i = .int .i64 k ∧ Arr wr g 3 (nats (wY (bothN p q) k)) ∧ w.grownBy wr none)
 case atStart => exact ⟨0, rfl, rfl, by rw [sB, bothN_length HL.out, wG]; exact HA2.out, HG2.out⟩
 case round =>
  clear HA2 HG2
  obtain ⟨k, hg, rfl, harr, hgr⟩ := hrel
  have HG := Kh hg; have HA := Kh harr; have HGR := Kh hgr
  have hln : (bothN p q).length = p.length := bothN_length HL.out
  clear hg
  by_cases hk : k < p.length
  ·have hk' : (k : Int) < p.length := by omega
   have ca := (RA.out.kept hgr (by simp)).nat k hk
   have cb := (RB.out.kept hgr (by simp)).nat k (by rw [HL.out]; exact hk)
   have hset := fillTo_set (l := bothN p q) (k := k) (by omega)
   rw [bothN_get HL.out hk] at hset
   have hpk := getD_lt_of (i := k) HP.out (by omega)
   have hqk := getD_lt_of (i := k) HQ.out (by omega)
   have cgk := harr.nat k (by rw [yS (by omega)]; omega)
   have fgk := harr.frozen k
   obtain ⟨a, ha⟩ : ∃ a, a = p.getD k 0 := ⟨_, rfl⟩
   obtain ⟨b, hb⟩ : ∃ b, b = q.getD k 0 := ⟨_, rfl⟩
   rw [← ha] at ca hset hpk
   rw [← hb] at cb hset hqk
   obtain ⟨X, hX⟩ : ∃ X, X = a * (p.length + 1) := ⟨_, rfl⟩
   have hXl : X ≤ 10000100000 := by
    have h8 : a * (p.length + 1) ≤ 100000 * 100001 := Nat.mul_le_mul (by omega) (by omega)
    omega
   rw [← hX] at hset
   have hw := wrap_both hX hXl hqk
   have HW := Kh hw
   have HS := Kh hset
   have ca' : wr.drew.cell? ⟨pb, po + k, none⟩ = some (.int .i64 (a : Int)) := ca
   have cb' : wr.drew.cell? ⟨qb, qo + k, none⟩ = some (.int .i64 (b : Int)) := cb
   have hpg : pb ≠ g := by omega
   have hqg : qb ≠ g := by omega
   have HS1 : Hid (∀ u, ((wr.setCell ⟨g, k, none⟩ u).drew.cell? ⟨pb, po + k, none⟩ = some (.int .i64 (a : Int)))) := Kh (fun u => by
    show (wr.setCell ⟨g, k, none⟩ u).cell? ⟨pb, po + k, none⟩ = _
    rw [World.cell?_of_block ((zH wr ⟨g, k, none⟩ u).block pb (by have := hgr.size; have := HGE.out; omega) (by simp; omega))]; exact ca)
   have HS2 : Hid (∀ u, ((wr.setCell ⟨g, k, none⟩ u).drew.cell? ⟨qb, qo + k, none⟩ = some (.int .i64 (b : Int)))) := Kh (fun u => by
    show (wr.setCell ⟨g, k, none⟩ u).cell? ⟨qb, qo + k, none⟩ = _
    rw [World.cell?_of_block ((zH wr ⟨g, k, none⟩ u).block qb (by have := hgr.size; have := HGE.out; omega) (by simp; omega))]; exact cb)
   clear ha hb hset hgr harr hX hw
   go_upto_region 5 with fail
   go_region_held3 (fun w' => w'.cell? ⟨pb, po + k, none⟩ = some (.int .i64 (a : Int)) ∧ w'.cell? ⟨qb, qo + k, none⟩ = some (.int .i64 (b : Int))) (first | exact ⟨ca', cb'⟩ | exact ⟨HS1.out _, HS2.out _⟩ | go_keep | fail) (fail)
   all_goals
    clear ca ca' cb cb' HS1 HS2 cgk fgk
    go_wp2
    go_roundg (p.length - (k + 1))
    case measure => have := HG.out; omega
    case rel =>
     refine ⟨k + 1, by omega, by go_num, ?_, ?_⟩
     ·rw [← HS.out]
      have h1 := HA.out.nat_set k (by rw [yS (by omega)]; omega) (X + b)
      rw [HW.out]
      exact h1.of_heap rfl
     ·exact yW (zG HGR.out (zH wr ⟨g, k, none⟩ _) (fun q e => by have h7 : g = q := Option.some.inj e; have := HGE.out; omega)) rfl rfl rfl rfl
  ·have hkl : k = p.length := by have := HG.out; omega
   have HE : Hid (wY (bothN p q) k = bothN p q) := Kh (by rw [hkl, ← hln]; exact fillTo_end _)
   clear hkl harr
   go_wp2_with fail
   rw [HE.out] at HA
   have HN := Kh (number_any (g + 1) wr (.slice (some ⟨g, 0, none⟩) p.length p.length) (bothL p q) HA.out.lt (by
    rw [← bothN_ints]
    exact .inr ⟨g, 0, p.length, by rw [zL, hln], by omega, by rw [zL, hln]; exact Nat.le_refl _, by unfold maxLen; omega, HA.out.row⟩) HMID.out (by rw [sQ HL.out]; exact hle))
   go_wp2_with fail
   refine HN.out.mono ?_
   rintro e w5 ⟨g5, rfl, hg5, ha5, hgr5⟩
   have hb8 : numb (bothL p q) = both8 p q := rfl
   have HA5 := Kh ha5; have HG5 := Kh hgr5
   clear ha5 hgr5
   go_wp2
   go_ret
   refine ⟨g5, rfl, ?_, HA5.out, zF HGR.out HG5.out⟩
   have := HGR.out.size
   omega
theorem fam_set {w : World} {b : Nat} {x y : Value} {e : Nat} (h : w.heap[b]? = some (.cells #[x, y] e (0, 0))) (x' y' : Value) :
  ((w.setCell ⟨b, 0, none⟩ x').setCell ⟨b, 1, none⟩ y').heap[b]? = some (.cells #[x', y'] e (0, 0)) := by
 have h1 := heap_setCell_same w b 0 _ _ x' h
 have h2 := heap_setCell_same _ b 1 _ _ y' h1
 rw [h2]; simp
set_option maxHeartbeats 800000 in
theorem closure_any (B : Nat) (w : World) (v iv : Value) (t : List (List Int)) (im : List Int) (hB : B ≤ w.heap.size) (h : Mat B w v t) (hi : Row B w iv (ints im)) (hT : TabOk w) :
  Calls Tryd.prog 16 #[v, iv] w (ClosureOk w t im) := by
 have HBG := Kh (begin_any B w v iv t im hB h hi hT)
 have H := Kh h; have HI := Kh hi; have HT := Kh hT
 clear h hi hT
 go_enter Tryd.func16, Tryd.ntmps16
 go_wp2_with fail
 refine HBG.out.mono ?_
 rintro e w1 ⟨hg1, hc⟩
 have HG1 := Kh hg1
 have hz1 := hg1.size
 clear HBG hg1
 rcases hc with ⟨hz, rfl⟩ | ⟨hz, sa, sc, rfl, hown⟩
 ·obtain ⟨E, hE⟩ : ∃ E, E = wI t im := ⟨_, rfl⟩
  rw [← hE] at hz ⊢
  have HE := Kh hE
  have e1 : (E != 0) = true := by rw [bne_iff_ne]; exact hz
  clear hE
  go_wp2
  refine bodyPost_ret (v := .tuple #[.slice none 0 0, .int .i64 E]) (by simp [results, Tryd.results16, go_sem]) rfl ?_
  exact ⟨zG HG1.out (World.grownBy_alloc _ _ none) (by simp), .inl ⟨by rw [← HE.out]; exact hz, by rw [← HE.out]⟩⟩
 ·have hgd := checkE_good.1 hz
  have HGD := Kh hgd; have HZ := Kh hz
  have hle := hgd.le
  have hva := hgd.valid
  have HTB := Kh (tb_of hva)
  have HVA := Kh hva
  have hpos := start_pos hgd
  obtain ⟨k0, rfl, hsc1, hsc2, harr⟩ := yT hown hpos
  have hkl := hown.lt k0 rfl
  obtain ⟨l0, hl0⟩ : ∃ l0, l0 = tL t im := ⟨_, rfl⟩
  rw [← hl0] at hpos hown hsc1 harr ⊢
  have HOWN := Kh hown
  have HL0 := Kh hl0
  have HF0 : Hid (FamOk t.length (l0, false)) := Kh (by rw [hl0]; exact start_ok hgd)
  clear hown harr hl0 hgd hva hz
  go_wp2_with fail
  obtain ⟨wA, hWA⟩ : ∃ wA, wA = w1.alloc (.cells #[.slice (some ⟨k0, 0, none⟩) l0.length sc, .bool false] 49) := ⟨_, rfl⟩
  have hrb : wA.heap[w1.heap.size]? = some (.cells #[.slice (some ⟨k0, 0, none⟩) l0.length sc, .bool false] 49 (0, 0)) := by rw [hWA]; exact heap_alloc_new w1 _
  have hgA : w1.grownBy wA none := by rw [hWA]; exact World.grownBy_alloc w1 _ none
  have hzA : wA.heap.size = w1.heap.size + 1 := by rw [hWA, zM]
  rw [← hWA]
  have HGA := Kh (zF HG1.out hgA); have HRA := Kh hrb
  have HO := Kh (yB HOWN.out hgA (by simp))
  have HTA := Kh (HT.out.kept HGA.out (by simp))
  have hgt0 := HT.out.1
  have hgt : 1 < wA.heap.size := by omega
  refine (newSets_any B wA v t (by omega) (H.out.kept HGA.out (by simp)) HVA.out hle HTA.out).mono ?_
  rintro e w2 ⟨p, go, rfl, hs2, hg2⟩
  have hz2 := hg2.size
  have HS2 := Kh hs2
  have HHE : Hid (Held wA.heap.size w2.heap.size w1.heap.size w2 k0 sc l0) := Kh (Held.of_owns (yB HO.out hg2 (by simp)) hpos (.inl (by omega)) (by omega))
  have HRB := Kh (zE hrb hg2 (by simp))
  have HGR := Kh (zF HGA.out hg2)
  have HT2 := Kh (HTA.out.kept hg2 (by simp))
  have HGO : Hid (Going t.length (entN t) l0 l0 false) := Kh ⟨HF0.out, 0, rfl⟩
  clear hWA hrb hgA HRA HO hs2 hg2 HOWN HTA HG1
  go_wp2_with fail
  go_loopg [] (togo t.length l0 false) (fun gh wr => ∃ (k sc : Nat) (l : List Nat) (d : Bool), gh = togo t.length l d ∧ Going t.length (entN t) l0 l d ∧ 0 < l.length ∧ Held wA.heap.size w2.heap.size w1.heap.size wr k sc l ∧ wR wA.heap.size w2.heap.size wr p go t.length (entN t) ∧ w2.heap.size ≤ wr.heap.size ∧ TabOk wr ∧ w.grownBy wr none ∧ wr.heap[w1.heap.size]? = some (.cells #[.slice (some ⟨k, 0, none⟩) l.length sc, .bool d] 49 (0, 0)))
  case atStart => exact ⟨k0, sc, l0, false, rfl, HGO.out, hpos, HHE.out, HS2.out, Nat.le_refl _, HT2.out, HGR.out, HRB.out⟩
  case round =>
   clear HGO HHE HS2 HT2 HGR HRB hsc1 hsc2
   obtain ⟨k, sc, l, d, hg, hgo, hl0, hhe, hs, hzr, hT, hgr, hrb⟩ := hrel
   have HG := Kh hg; have HGO := Kh hgo; have HHE := Kh hhe; have HS := Kh hs; have HTR := Kh hT; have HGR := Kh hgr; have HRB := Kh hrb
   have cr0 := zJ hrb 0 (by simp)
   have cr1 := zJ hrb 1 (by simp)
   have fr0 := zD hrb 0
   have fr1 := zD hrb 1
   simp only [List.getElem_toArray, List.getElem_cons_zero, List.getElem_cons_succ] at cr0 cr1
   clear hg hgo hhe hs hT hgr hrb
   cases d with
   | false =>
    go_wp2_with fail
    have hgl := HS.out.go_lt
    have hll := HGO.out.le
    have hp4 := sJ hle
    refine (round_any wA.heap.size w2.heap.size wr.heap.size wr p go t.length (entN t) _ false l HS.out HTB.out hle HHE.out.rowO hl0 HGO.out.1.1 (by omega) (Nat.le_refl _) hzr hgt HTR.out).mono ?_
    rintro e w3 ⟨sa3, sc3, rfl, hown3, hs3, hg3⟩
    have hpos3 := round_ne HTB.out HGO.out.1.1 hl0
    obtain ⟨k3, rfl, hc1, hc2, _⟩ := yT hown3 hpos3
    have hk3 := hown3.lt k3 rfl
    have HM : Hid (togo t.length (zY t.length (entN t) l) (decide (zY t.length (entN t) l = l)) < togo t.length l false) := Kh (HGO.out.less HTB.out)
    have HGN := Kh (HGO.out.step HTB.out)
    obtain ⟨R, hR⟩ : ∃ R, R = zY t.length (entN t) l := ⟨_, rfl⟩
    obtain ⟨D, hD⟩ : ∃ D, D = decide (zY t.length (entN t) l = l) := ⟨_, rfl⟩
    rw [← hD, ← hR] at HM HGN
    rw [← hD]
    rw [← hR] at hown3 hpos3 hc1 ⊢
    have hr3 := zE HRB.out hg3 (fun e => by have : go = w1.heap.size := Option.some.inj e; omega)
    have HR3 := Kh hr3
    have cr0' := zJ hr3 0 (by simp)
    have cr1' := zJ hr3 1 (by simp)
    have fr0' := zD hr3 0
    have fr1' := zD hr3 1
    simp only [List.getElem_toArray, List.getElem_cons_zero, List.getElem_cons_succ] at cr0' cr1'
    have HH3 : Hid (Held wA.heap.size w2.heap.size w1.heap.size w3 k3 sc3 R) := Kh (Held.of_owns hown3 hpos3 (.inr (by omega)) (by omega))
    have HS3 := Kh hs3
    have HT3 := Kh (HTR.out.kept hg3 (fun e => by have := Option.some.inj e; omega))
    have hz3 := hg3.size
    have HG3 : Hid (w.grownBy w3 none) := Kh (zG HGR.out hg3 (fun x e => by have : go = x := Option.some.inj e; omega))
    clear hown3 hs3 hg3 hr3 hR hD cr0 cr1 fr0 fr1
    go_wp2
    have hs5 : w3.grownBy ((w3.setCell ⟨w1.heap.size, 0, none⟩ (.slice (some ⟨k3, 0, none⟩) R.length sc3)).setCell ⟨w1.heap.size, 1, none⟩ (.bool D)) (some w1.heap.size) :=
     zF (zH w3 ⟨w1.heap.size, 0, none⟩ _) (zH (w3.setCell ⟨w1.heap.size, 0, none⟩ (.slice (some ⟨k3, 0, none⟩) R.length sc3)) ⟨w1.heap.size, 1, none⟩ _)
    have HR5 := Kh (fam_set HR3.out (.slice (some ⟨k3, 0, none⟩) R.length sc3) (.bool D))
    have HG5 := Kh hs5
    clear hs5
    go_roundg (togo t.length R D)
    case measure => rw [HG.out]; exact HM.out
    case rel => exact ⟨k3, sc3, R, D, rfl, HGN.out, hpos3, HH3.out.kept HG5.out (fun e => by have : w1.heap.size = k3 := Option.some.inj e; omega), HS3.out.kept HG5.out (fun q e => by have : w1.heap.size = q := Option.some.inj e; omega), by have := HG5.out.size; omega, HT3.out.kept HG5.out (fun e => by have := Option.some.inj e; omega), zG HG3.out HG5.out (fun x e => by have : w1.heap.size = x := Option.some.inj e; omega), HR5.out⟩
   | true =>
    go_wp2
    refine bodyPost_ret (v := .tuple #[.slice (some ⟨k, 0, none⟩) l.length sc, .int .i64 0]) (by simp [results, Tryd.results16, go_sem]) rfl ?_
    refine ⟨HGR.out, .inr ⟨HZ.out, _, rfl, ?_⟩⟩
    have := HGO.out.stop HTB.out HF0.out
    unfold uD
    rw [← HL0.out, ← this]
    exact HHE.out.rowO.row
theorem two_boxes (w : World) (c1 c2 : Array Value) (e : Nat) : ((w.alloc (.cells c1 e)).alloc (.cells c2 e)).heap[w.heap.size]? = some (.cells c1 e (0, 0)) ∧ ((w.alloc (.cells c1 e)).alloc (.cells c2 e)).heap[w.heap.size + 1]? = some (.cells c2 e (0, 0)) ∧ w.grownBy ((w.alloc (.cells c1 e)).alloc (.cells c2 e)) none ∧ ((w.alloc (.cells c1 e)).alloc (.cells c2 e)).heap.size = w.heap.size + 2 := by
 refine ⟨zE (heap_alloc_new w _) (World.grownBy_alloc _ _ none) (by simp), ?_, xW (World.grownBy_alloc w _ none) _, by rw [zM, zM]⟩
 have := heap_alloc_new (w.alloc (.cells c1 e)) (.cells c2 e)
 rw [zM] at this
 exact this
theorem Arr.ne {w : World} {g pb e e' : Nat} {xs : List Value} {cs : Array Value} {m : Nat × Nat} (h : Arr w g e xs) (hb : w.heap[pb]? = some (.cells cs e' m)) (hne : e ≠ e') : g ≠ pb := by
 rintro rfl
 obtain ⟨cur, rest, h1, _⟩ := h
 rw [h1] at hb
 simp only [Option.some.injEq, Obj.cells.injEq] at hb
 exact hne hb.2.1
theorem cast_dec {l m : List Nat} : decide ((l.map fun (x : Nat) => (x : Int)) = m.map fun (x : Nat) => (x : Int)) = decide (l = m) := by
 rw [← cast_inj (l := l) (m := m), Bool.eq_iff_iff, decide_eq_true_eq, beq_iff_eq]
structure DAt (B : Nat) (w : World) (d : DfaV) (n k fb fo fc b off cap : Nat) (RB RO RC : Nat → Nat) : Prop where
 ok : VD d n k
 flt : fb < B
 frow : RowAt w fb fo (bls d.final)
 fcap : n ≤ fc ∧ fc ≤ maxLen
 blt : b < B
 bltw : b < w.heap.size
 cap : n ≤ cap ∧ cap ≤ maxLen
 hd : ∀ q, q < n → w.cell? ⟨b, off + q, none⟩ = some (.slice (some ⟨RB q, RO q, none⟩) k (RC q))
 el : ∀ q a, q < n → a < k → w.cell? ⟨RB q, RO q + a, none⟩ = some (.int .i64 ((nx d q a : Nat) : Int))
 rlt : ∀ q, q < n → RB q < B ∧ RB q < w.heap.size
 rcap : ∀ q, q < n → k ≤ RC q ∧ RC q ≤ maxLen
theorem DAt.kept {B : Nat} {w w' : World} {d : DfaV} {n k fb fo fc b off cap : Nat} {RB RO RC : Nat → Nat} {row : Option Nat} (h : DAt B w d n k fb fo fc b off cap RB RO RC) (hg : w.grownBy w' row) (hr : ∀ k, row = some k → B ≤ k) : DAt B w' d n k fb fo fc b off cap RB RO RC where
 ok := h.ok
 flt := h.flt
 frow := h.frow.kept hg (fun e => by have := hr _ e; have := h.flt; omega)
 fcap := h.fcap
 blt := h.blt
 bltw := Nat.lt_of_lt_of_le h.bltw hg.size
 cap := h.cap
 hd := fun q hq => (World.cell?_of_block (hg.block b h.bltw (fun e => by have := hr b e.symm; have := h.blt; omega))).trans (h.hd q hq)
 el := fun q a hq ha => (World.cell?_of_block (hg.block (RB q) (h.rlt q hq).2 (fun e => by have := hr _ e.symm; have := (h.rlt q hq).1; omega))).trans (h.el q a hq ha)
 rlt := fun q hq => ⟨(h.rlt q hq).1, Nat.lt_of_lt_of_le (h.rlt q hq).2 hg.size⟩
 rcap := h.rcap
theorem DAt.fin {B : Nat} {w : World} {d : DfaV} {n k fb fo fc b off cap : Nat} {RB RO RC : Nat → Nat} (h : DAt B w d n k fb fo fc b off cap RB RO RC) {q : Nat} (hq : q < n) : w.cell? ⟨fb, fo + q, none⟩ = some (.bool (d.final.getD q false)) := by
 have hl := h.ok.hn
 have := RowAt.map h.frow q (by omega)
 rw [this, zN (by omega)]
def dAgg (k st fb fo fc b off cap n : Nat) : Value := .agg #[.int .i64 (k : Int), .int .i64 (st : Int), .slice (some ⟨fb, fo, none⟩) n fc, .slice (some ⟨b, off, none⟩) n cap]
theorem DfaOk.at {B : Nat} {w : World} {v : Value} {d : DfaV} {n k : Nat} (h : DfaOk B w v d) (hd : VD d n k) :
  ∃ fb fo fc b off cap RB RO RC, v = dAgg k (st0 d) fb fo fc b off cap n ∧ DAt B w d n k fb fo fc b off cap RB RO RC := by
 obtain ⟨fv, nv, rfl, hf, hn⟩ := h
 obtain ⟨fb, fo, fc, rfl, h1, h2, h3, h4⟩ := hf.some_ (by rw [wD, hd.hn]; exact hd.n1)
 obtain ⟨b, off, cap, A, C, rfl, k1, k2, k3⟩ := hn.some_ (by rw [hd.nl]; exact hd.n1)
 have hr : ∀ q, ∃ rb ro, q < n → A q = some ⟨rb, ro, none⟩ ∧ rb < B ∧ k ≤ C q ∧ C q ≤ maxLen ∧ RowAt w rb ro (ints (d.next.getD q [])) := by
  intro q
  by_cases hq : q < n
  ·have hl := hd.row q hq
   obtain ⟨rb, ro, c, e, h4, h5, h6, h7⟩ := (k3.row q (by rw [hd.nl]; exact hq)).some_ (by rw [zU, hl]; exact hd.k1)
   simp only [Value.slice.injEq] at e
   rw [zU, hl] at h5
   exact ⟨rb, ro, fun _ => ⟨e.1, h4, by rw [e.2.2]; exact h5, by rw [e.2.2]; exact h6, h7⟩⟩
  ·exact ⟨0, 0, fun h => absurd h hq⟩
 obtain ⟨RB, hRB⟩ := Classical.axiomOfChoice hr
 obtain ⟨RO, hRO⟩ := Classical.axiomOfChoice hRB
 rw [wD, hd.hn] at h2
 rw [hd.nl] at k1
 refine ⟨fb, fo, fc, b, off, cap, RB, RO, C, ?_, hd, h1, h4, ⟨h2, h3⟩, k3.lt, k3.ltw, ⟨k1, k2⟩, fun q hq => ?_, fun q a hq ha => ?_, fun q hq => ?_, fun q hq => ?_⟩
 ·rw [dAgg, st0_cast hd, hd.hk, wD, hd.hn, hd.nl]
 ·rw [k3.hd q (by rw [hd.nl]; exact hq), (hRO q hq).1, hd.row q hq]
 ·rw [(hRO q hq).2.2.2.2.int a (by rw [hd.row q hq]; exact ha), nx_cast hd hq ha]
  rfl
 ·have := hRO q hq
  exact ⟨this.2.1, this.2.2.2.2.1⟩
 ·have := hRO q hq
  exact ⟨this.2.2.1, this.2.2.2.1⟩
theorem zO {w : World} {p : Nat} {x0 x1 x2 x3 : Value} {e : Nat} (h : w.heap[p]? = some (.cells #[x0, x1, x2, x3] e (0, 0))) :
  w.cell? ⟨p, 0, none⟩ = some x0 ∧ w.cell? ⟨p, 1, none⟩ = some x1 ∧ w.cell? ⟨p, 2, none⟩ = some x2 ∧ w.cell? ⟨p, 3, none⟩ = some x3 := by
 have c0 := zJ h 0 (by simp)
 have c1 := zJ h 1 (by simp)
 have c2 := zJ h 2 (by simp)
 have c3 := zJ h 3 (by simp)
 simp only [List.getElem_toArray, List.getElem_cons_zero, List.getElem_cons_succ] at c0 c1 c2 c3
 exact ⟨c0, c1, c2, c3⟩
theorem row_of_at {w : World} {g n : Nat} {l : List Nat} (h : RowAt w g 0 (nats l)) (hl : l.length = n) (hn : n ≤ 9223372036854775807) : Row (g + 1) w (.slice (some ⟨g, 0, none⟩) n n) (nats l) :=
 .inr ⟨g, 0, n, by rw [zL, hl], by omega, by rw [zL, hl]; exact Nat.le_refl _, by unfold maxLen; omega, h⟩
theorem colTo_take {d : DfaV} {p : List Nat} {a q : Nat} (hq : q < p.length) : (colTo d p a).take (q + 1) = (colTo d p a).take q ++ [p.getD (nx d q a) 0] := by
 rw [yA (d := 0) (by rw [tI]; exact hq), colTo_get hq]
theorem colTo_lt {d : DfaV} {p : List Nat} {n a : Nat} (h : ∀ c ∈ p, c < n) (hn : 0 < n) : ∀ c ∈ colTo d p a, c < n := by
 intro c hc
 obtain ⟨q, hq, rfl⟩ := List.mem_map.1 hc
 exact getD_lt_of h hn
end Go.Proofs.YtdjhoadoiknaoaaDoor
