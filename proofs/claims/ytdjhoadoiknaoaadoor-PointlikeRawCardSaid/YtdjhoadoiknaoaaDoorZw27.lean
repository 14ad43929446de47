/- Part 27 of the proof: Closure. -/
import Derived.Test.YtdjhoadoiknaoaaDoorZw26
set_option linter.unusedVariables false
set_option linter.unusedSimpArgs false
namespace Go.Proofs.YtdjhoadoiknaoaaDoor
open Go.RowKit
theorem fam_set {w : World} {b : Nat} {x y : Value} {e : Nat} (h : w.heap[b]? = some (.cells #[x, y] e (0, 0))) (x' y' : Value) :
    ((w.setCell ⟨b, 0, none⟩ x').setCell ⟨b, 1, none⟩ y').heap[b]? = some (.cells #[x', y'] e (0, 0)) := by
  have h1 := heap_setCell_same w b 0 _ _ x' h
  have h2 := heap_setCell_same _ b 1 _ _ y' h1
  rw [h2]; simp
set_option maxHeartbeats 800000 in
theorem closure_any (B : Nat) (w : World) (v iv : Value) (t : List (List Int)) (im : List Int) (hB : B ≤ w.heap.size) (h : Mat B w v t) (hi : Row B w iv (ints im)) (hT : TabOk w) :
    Calls Tryd.prog 16 #[v, iv] w (ClosureOk w t im) := by
  have HBG := Lib.hid (begin_any B w v iv t im hB h hi hT)
  have H := Lib.hid h; have HI := Lib.hid hi; have HT := Lib.hid hT
  clear h hi hT
  go_enter Tryd.func16, Tryd.ntmps16
  go_wp2_with fail
  refine HBG.out.mono ?_
  rintro e w1 ⟨hg1, hc⟩
  have HG1 := Lib.hid hg1
  have hz1 := hg1.size
  clear HBG hg1
  rcases hc with ⟨hz, rfl⟩ | ⟨hz, sa, sc, rfl, hown⟩
  · obtain ⟨E, hE⟩ : ∃ E, E = checkE t im := ⟨_, rfl⟩
    rw [← hE] at hz ⊢
    have HE := Lib.hid hE
    have e1 : (E != 0) = true := by rw [bne_iff_ne]; exact hz
    clear hE
    go_wp2
    refine bodyPost_ret (v := .tuple #[.slice none 0 0, .int .i64 E]) (by simp [results, Tryd.results16, go_sem]) rfl ?_
    exact ⟨grown_far HG1.out (World.grownBy_alloc _ _ none) (by simp), .inl ⟨by rw [← HE.out]; exact hz, by rw [← HE.out]⟩⟩
  · have hgd := checkE_good.1 hz
    have HGD := Lib.hid hgd; have HZ := Lib.hid hz
    have hle := hgd.le
    have hva := hgd.valid
    have HTB := Lib.hid (tb_of hva)
    have HVA := Lib.hid hva
    have hpos := start_pos hgd
    obtain ⟨k0, rfl, hsc1, hsc2, harr⟩ := owns_some hown hpos
    have hkl := hown.lt k0 rfl
    obtain ⟨l0, hl0⟩ : ∃ l0, l0 = startL t im := ⟨_, rfl⟩
    rw [← hl0] at hpos hown hsc1 harr ⊢
    have HOWN := Lib.hid hown
    have HL0 := Lib.hid hl0
    have HF0 : Hid (FamOk t.length (l0, false)) := Lib.hid (by rw [hl0]; exact start_ok hgd)
    clear hown harr hl0 hgd hva hz
    go_wp2_with fail
    obtain ⟨wA, hWA⟩ : ∃ wA, wA = w1.alloc (.cells #[.slice (some ⟨k0, 0, none⟩) l0.length sc, .bool false] 49) := ⟨_, rfl⟩
    have hrb : wA.heap[w1.heap.size]? = some (.cells #[.slice (some ⟨k0, 0, none⟩) l0.length sc, .bool false] 49 (0, 0)) := by rw [hWA]; exact heap_alloc_new w1 _
    have hgA : w1.grownBy wA none := by rw [hWA]; exact World.grownBy_alloc w1 _ none
    have hzA : wA.heap.size = w1.heap.size + 1 := by rw [hWA, alloc_size]
    rw [← hWA]
    have HGA := Lib.hid (grownBy_trans' HG1.out hgA); have HRA := Lib.hid hrb
    have HO := Lib.hid (ownsRow_kept HOWN.out hgA (by simp))
    have HTA := Lib.hid (HT.out.kept HGA.out (by simp))
    have hgt0 := HT.out.1
    have hgt : 1 < wA.heap.size := by omega
    refine (newSets_any B wA v t (by omega) (H.out.kept HGA.out (by simp)) HVA.out hle HTA.out).mono ?_
    rintro e w2 ⟨p, go, rfl, hs2, hg2⟩
    have hz2 := hg2.size
    have HS2 := Lib.hid hs2
    have HHE : Hid (Held wA.heap.size w2.heap.size w1.heap.size w2 k0 sc l0) := Lib.hid (Held.of_owns (ownsRow_kept HO.out hg2 (by simp)) hpos (.inl (by omega)) (by omega))
    have HRB := Lib.hid (block_kept hrb hg2 (by simp))
    have HGR := Lib.hid (grownBy_trans' HGA.out hg2)
    have HT2 := Lib.hid (HTA.out.kept hg2 (by simp))
    have HGO : Hid (Going t.length (entN t) l0 l0 false) := Lib.hid ⟨HF0.out, 0, rfl⟩
    clear hWA hrb hgA HRA HO hs2 hg2 HOWN HTA HG1
    go_wp2_with fail
    go_loopg [] (togo t.length l0 false) (fun gh wr => ∃ (k sc : Nat) (l : List Nat) (d : Bool), gh = togo t.length l d ∧ Going t.length (entN t) l0 l d ∧ 0 < l.length ∧ Held wA.heap.size w2.heap.size w1.heap.size wr k sc l ∧ SetsOk wA.heap.size w2.heap.size wr p go t.length (entN t) ∧ w2.heap.size ≤ wr.heap.size ∧ TabOk wr ∧ w.grownBy wr none ∧ wr.heap[w1.heap.size]? = some (.cells #[.slice (some ⟨k, 0, none⟩) l.length sc, .bool d] 49 (0, 0)))
    case atStart => exact ⟨k0, sc, l0, false, rfl, HGO.out, hpos, HHE.out, HS2.out, Nat.le_refl _, HT2.out, HGR.out, HRB.out⟩
    case round =>
      clear HGO HHE HS2 HT2 HGR HRB hsc1 hsc2
      obtain ⟨k, sc, l, d, hg, hgo, hl0, hhe, hs, hzr, hT, hgr, hrb⟩ := hrel
      have HG := Lib.hid hg; have HGO := Lib.hid hgo; have HHE := Lib.hid hhe; have HS := Lib.hid hs; have HTR := Lib.hid hT; have HGR := Lib.hid hgr; have HRB := Lib.hid hrb
      have cr0 := cell_block hrb 0 (by simp)
      have cr1 := cell_block hrb 1 (by simp)
      have fr0 := frozen_block hrb 0
      have fr1 := frozen_block hrb 1
      simp only [List.getElem_toArray, List.getElem_cons_zero, List.getElem_cons_succ] at cr0 cr1
      clear hg hgo hhe hs hT hgr hrb
      cases d with
      | false =>
        go_wp2_with fail
        have hgl := HS.out.go_lt
        have hll := HGO.out.le
        have hp4 := pow_le hle
        refine (round_any wA.heap.size w2.heap.size wr.heap.size wr p go t.length (entN t) _ false l HS.out HTB.out hle HHE.out.rowO hl0 HGO.out.1.1 (by omega) (Nat.le_refl _) hzr hgt HTR.out).mono ?_
        rintro e w3 ⟨sa3, sc3, rfl, hown3, hs3, hg3⟩
        have hpos3 := round_ne HTB.out HGO.out.1.1 hl0
        obtain ⟨k3, rfl, hc1, hc2, _⟩ := owns_some hown3 hpos3
        have hk3 := hown3.lt k3 rfl
        have HM : Hid (togo t.length (roundSets t.length (entN t) l) (decide (roundSets t.length (entN t) l = l)) < togo t.length l false) := Lib.hid (HGO.out.less HTB.out)
        have HGN := Lib.hid (HGO.out.step HTB.out)
        obtain ⟨R, hR⟩ : ∃ R, R = roundSets t.length (entN t) l := ⟨_, rfl⟩
        obtain ⟨D, hD⟩ : ∃ D, D = decide (roundSets t.length (entN t) l = l) := ⟨_, rfl⟩
        rw [← hD, ← hR] at HM HGN
        rw [← hD]
        rw [← hR] at hown3 hpos3 hc1 ⊢
        have hr3 := block_kept HRB.out hg3 (fun e => by have : go = w1.heap.size := Option.some.inj e; omega)
        have HR3 := Lib.hid hr3
        have cr0' := cell_block hr3 0 (by simp)
        have cr1' := cell_block hr3 1 (by simp)
        have fr0' := frozen_block hr3 0
        have fr1' := frozen_block hr3 1
        simp only [List.getElem_toArray, List.getElem_cons_zero, List.getElem_cons_succ] at cr0' cr1'
        have HH3 : Hid (Held wA.heap.size w2.heap.size w1.heap.size w3 k3 sc3 R) := Lib.hid (Held.of_owns hown3 hpos3 (.inr (by omega)) (by omega))
        have HS3 := Lib.hid hs3
        have HT3 := Lib.hid (HTR.out.kept hg3 (fun e => by have := Option.some.inj e; omega))
        have hz3 := hg3.size
        have HG3 : Hid (w.grownBy w3 none) := Lib.hid (grown_far HGR.out hg3 (fun x e => by have : go = x := Option.some.inj e; omega))
        clear hown3 hs3 hg3 hr3 hR hD cr0 cr1 fr0 fr1
        go_wp2
        have hs5 : w3.grownBy ((w3.setCell ⟨w1.heap.size, 0, none⟩ (.slice (some ⟨k3, 0, none⟩) R.length sc3)).setCell ⟨w1.heap.size, 1, none⟩ (.bool D)) (some w1.heap.size) :=
          grownBy_trans' (grownBy_setCell w3 ⟨w1.heap.size, 0, none⟩ _) (grownBy_setCell (w3.setCell ⟨w1.heap.size, 0, none⟩ (.slice (some ⟨k3, 0, none⟩) R.length sc3)) ⟨w1.heap.size, 1, none⟩ _)
        have HR5 := Lib.hid (fam_set HR3.out (.slice (some ⟨k3, 0, none⟩) R.length sc3) (.bool D))
        have HG5 := Lib.hid hs5
        clear hs5
        go_roundg (togo t.length R D)
        case measure => rw [HG.out]; exact HM.out
        case rel => exact ⟨k3, sc3, R, D, rfl, HGN.out, hpos3, HH3.out.kept HG5.out (fun e => by have : w1.heap.size = k3 := Option.some.inj e; omega), HS3.out.kept HG5.out (fun q e => by have : w1.heap.size = q := Option.some.inj e; omega), by have := HG5.out.size; omega, HT3.out.kept HG5.out (fun e => by have := Option.some.inj e; omega), grown_far HG3.out HG5.out (fun x e => by have : w1.heap.size = x := Option.some.inj e; omega), HR5.out⟩
      | true =>
        go_wp2
        refine bodyPost_ret (v := .tuple #[.slice (some ⟨k, 0, none⟩) l.length sc, .int .i64 0]) (by simp [results, Tryd.results16, go_sem]) rfl ?_
        refine ⟨HGR.out, .inr ⟨HZ.out, _, rfl, ?_⟩⟩
        have := HGO.out.stop HTB.out HF0.out
        unfold closeL
        rw [← HL0.out, ← this]
        exact HHE.out.rowO.row
end Go.Proofs.YtdjhoadoiknaoaaDoor
