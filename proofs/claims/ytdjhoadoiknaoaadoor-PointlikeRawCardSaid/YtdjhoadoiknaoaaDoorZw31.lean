/- Part 31 of the proof: Half, BoxS, RClos, LSame, Derives. -/
import Derived.Test.YtdjhoadoiknaoaaDoorZw30
set_option linter.unusedVariables false
set_option linter.unusedSimpArgs false
namespace Go.Proofs.YtdjhoadoiknaoaaDoor
open Go.RowKit
section
variable {base : Nat} {W W' : World} {hs : List Value} {t : List (List Int)}
end
section
variable {base o : Nat} {W W' : World} {L S : Int} {fs : List Bool} {t : List (List Int)} {hs : List Value} {sf sn : Option Addr} {cf cn : Nat}
end
theorem getDm {α : Type} {l : List α} {d : α} {q : Nat} (h : q < l.length) : l.getD q d ∈ l := by
  rw [List.getD_eq_getElem?_getD, List.getElem?_eq_getElem h]; exact List.getElem_mem _
end Go.Proofs.YtdjhoadoiknaoaaDoor
namespace Go.Proofs.YtdjhoadoiknaoaaDoor
open Go.RowKit
section
variable {B : Nat} {X : Nat → Prop} {o ty : Nat} {w0 wk w : World} {rs : List RowS} {c : Array Value}
end
theorem nats_ints (l : List Nat) : nats l = ints (l.map fun (x : Nat) => (x : Int)) := by simp [nats, ints]
end Go.Proofs.YtdjhoadoiknaoaaDoor
namespace Go.Proofs.YtdjhoadoiknaoaaDoor
open Go.RowKit
def Pos (l : List Nat) : Prop := 0 < l.length ∧ 0 ∉ l
theorem max_pos {n : Nat} {l : List Nat} (hl : ∀ b ∈ l, b < 2 ^ n) {a : Nat} (ha : a ∈ l) (h0 : a ≠ 0) : Pos (maxOf n l) := by
  obtain ⟨b, hb, hab⟩ := exists_max hl _ a (Nat.le_refl _) ha
  refine ⟨List.length_pos_of_mem hb, fun h => ?_⟩
  rcases ((mem_maxOf hl).1 h).2 a ha with e | e
  · exact h0 e.symm
  · exact e (Nat.zero_and a)
theorem Pos.ex {l : List Nat} (h : Pos l) : ∃ a ∈ l, a ≠ 0 := by
  obtain ⟨a, ha⟩ := List.exists_mem_of_length_pos h.1
  exact ⟨a, ha, fun e => h.2 (e ▸ ha)⟩
theorem start_pos' {t : List (List Int)} {im : List Int} (h : Good t im) : Pos (startL t im) :=
  max_pos (genL_lt h) (a := 2 ^ (identI t).toNat) (by simp [genL]) (Nat.ne_of_gt (Nat.two_pow_pos _))
theorem Pos.round {n : Nat} {tb : Nat → Nat → Nat} {l : List Nat} (ht : Tb n tb) (hl : ∀ b ∈ l, b < 2 ^ n) (h : Pos l) : Pos (roundSets n tb l) := by
  obtain ⟨a, ha, h0⟩ := h.ex
  exact max_pos (roundList_lt ht hl) (mem_roundList.2 (.inl ha)) h0
def intL (l : List Nat) : List Int := l.map fun (x : Nat) => (x : Int)
theorem intL_length (l : List Nat) : (intL l).length = l.length := by simp [intL]
theorem intL_getD (l : List Nat) (i : Nat) : (intL l).getD i 0 = (l.getD i 0 : Nat) := by
  simp only [intL, List.getD, List.getElem?_map]
  cases l[i]? <;> rfl
theorem natL_intL (l : List Nat) : natL (intL l) = l := by simp [natL, intL, Function.comp_def]
theorem famB_int {n : Nat} {l : List Nat} (h : FamOk n (l, false)) (hp : Pos l) : famB n (intL l) = true := by
  have hs : l.Pairwise (· < ·) := by
    have := maxOf_sorted n l
    have h2 : maxOf n l = l := h.2
    rwa [h2] at this
  have h1 : ∀ b ∈ l, b < 2 ^ n := h.1
  have hft : famTo n (intL l) (intL l).length = true := by
    simp only [famTo, List.all_eq_true, List.mem_range]
    intro i hi
    rw [intL_length] at hi
    have hm := h1 _ (getD_memN hi)
    have h0 : l.getD i 0 ≠ 0 := fun e => hp.2 (e ▸ getD_memN hi)
    simp only [famAt, setB, intL_getD, Bool.and_eq_true, decide_eq_true_eq]
    refine ⟨⟨by omega, by omega⟩, ?_⟩
    by_cases hi0 : i = 0
    · exact .inl hi0
    · have := sorted_lt hs (i := i - 1) (j := i) (by omega) hi
      exact .inr (by omega)
  rw [famB_eq (by rw [intL_length]; exact hp.1) hft, natL_intL, intL_length, decide_eq_true_eq]
  have h2 : maxOf n l = l := h.2
  rw [h2]
theorem row_not_box {B : Nat} {w : World} {a : Option Addr} {n sc pb e : Nat} {l : List Nat} {p q : Value} (h : Row B w (.slice a n sc) (nats l)) (h0 : 0 < l.length) (hb : w.heap[pb]? = some (.cells #[p, q] e (0, 0))) (hp : ∀ z, p ≠ .int .i64 z) (hq : ∀ z, q ≠ .int .i64 z) :
    ∃ k off, a = some ⟨k, off, none⟩ ∧ n = l.length ∧ l.length ≤ sc ∧ sc ≤ maxLen ∧ RowAt w k off (nats l) ∧ k ≠ pb := by
  obtain ⟨k, off, cap, e1, h2, h3, h4, h5⟩ := h.some_ (by rw [nats_length]; exact h0)
  simp only [Value.slice.injEq] at e1
  obtain ⟨rfl, rfl, rfl⟩ := e1
  refine ⟨k, off, rfl, by rw [nats_length], by rw [nats_length] at h3; exact h3, h4, h5, ?_⟩
  rintro rfl
  have hc := h5.nat 0 h0
  rw [Nat.add_zero, cell_of_row w k off _ _ _ hb] at hc
  match off, hc with
  | 0, hc => simp at hc; exact hp _ hc
  | 1, hc => simp at hc; exact hq _ hc
  | n + 2, hc => simp at hc
set_option maxHeartbeats 800000 in
theorem rclosure_any (B : Nat) (w : World) (v iv : Value) (t : List (List Int)) (im : List Int) (hB : B ≤ w.heap.size) (h : Mat B w v t) (hi : Row B w iv (ints im)) :
    Calls Tryd.prog 29 #[v, iv] w (ClosureOk w t im) := by
  have HBG := Lib.hid (rbegin_any B w v iv t im hB h hi)
  have H := Lib.hid h; have HI := Lib.hid hi
  clear h hi
  go_enter Tryd.func29, Tryd.ntmps29
  go_wp2_with fail
  refine HBG.out.mono ?_
  rintro e w1 ⟨hg1, hc⟩
  have HG1 := Lib.hid hg1
  have hz1 := hg1.size
  clear HBG hg1
  rcases hc with ⟨hz, rfl⟩ | ⟨hz, sa, sc, rfl, hown⟩
  · obtain ⟨E, hE⟩ : ∃ E, E = checkE t im := ⟨_, rfl⟩
    rw [← hE] at hz ⊢
    have HE := Lib.hid hE
    have e1 : (E == 0) = false := by rw [beq_eq_false_iff_ne]; exact hz
    clear hE
    go_wp2
    go_loopg [7] 0 (fun gh i wr => i = .int .i64 E ∧ wr = w1.alloc (.cells #[.slice none 0 0, .bool false] 49))
    case atStart => exact ⟨rfl, rfl⟩
    case round =>
      obtain ⟨rfl, rfl⟩ := hrel
      go_wp2
      refine bodyPost_ret (v := .tuple #[.slice none 0 0, .int .i64 E]) (by simp [results, Tryd.results29, go_sem]) rfl ?_
      exact ⟨grown_far HG1.out (World.grownBy_alloc _ _ none) (by simp), .inl ⟨by rw [← HE.out]; exact hz, by rw [← HE.out]⟩⟩
  · have hgd := checkE_good.1 hz
    have HGD := Lib.hid hgd; have HZ := Lib.hid hz
    have hle := hgd.le
    have hva := hgd.valid
    have HTB := Lib.hid (tb_of hva)
    have hpos := start_pos hgd
    obtain ⟨k0, rfl, hsc1, hsc2, harr⟩ := owns_some hown hpos
    have hkl := hown.lt k0 rfl
    obtain ⟨l0, hl0⟩ : ∃ l0, l0 = startL t im := ⟨_, rfl⟩
    have HPS : Hid (Pos l0) := Lib.hid (by rw [hl0]; exact start_pos' hgd)
    have HF0 : Hid (FamOk t.length (l0, false)) := Lib.hid (by rw [hl0]; exact start_ok hgd)
    rw [← hl0] at hpos hown hsc1 harr ⊢
    have HRA := Lib.hid harr.row
    have HL0 := Lib.hid hl0
    have HGO : Hid (Going t.length (entN t) l0 l0 false) := Lib.hid ⟨HF0.out, 0, rfl⟩
    clear hown harr hl0 hgd hva hz
    go_wp2
    obtain ⟨wA, hWA⟩ : ∃ wA, wA = w1.alloc (.cells #[.slice (some ⟨k0, 0, none⟩) l0.length sc, .bool false] 49) := ⟨_, rfl⟩
    have HRB : Hid (wA.heap[w1.heap.size]? = some (.cells #[.slice (some ⟨k0, 0, none⟩) l0.length sc, .bool false] 49 (0, 0))) := Lib.hid (by rw [hWA]; exact heap_alloc_new w1 _)
    have hgA : w1.grownBy wA none := by rw [hWA]; exact World.grownBy_alloc w1 _ none
    rw [← hWA]
    have HGA := Lib.hid (grownBy_trans' HG1.out hgA)
    have HRW := Lib.hid (HRA.out.kept hgA (by simp))
    have hk0 : k0 ≠ w1.heap.size := by omega
    clear hWA hgA HRA HG1
    obtain ⟨bx, hbx⟩ : ∃ bx, bx = w1.heap.size := ⟨_, rfl⟩
    rw [← hbx] at HRB hk0 hz1 ⊢
    clear hbx
    go_loopg [7] (togo t.length l0 false) (fun gh i wr => i = .int .i64 0 ∧ ∃ (k off sc : Nat) (l : List Nat) (d : Bool), gh = togo t.length l d ∧ Going t.length (entN t) l0 l d ∧ Hid (Pos l) ∧ RowAt wr k off (nats l) ∧ l.length ≤ sc ∧ sc ≤ maxLen ∧ k ≠ bx ∧ w.grownBy wr none ∧ wr.heap[bx]? = some (.cells #[.slice (some ⟨k, off, none⟩) l.length sc, .bool d] 49 (0, 0)))
    case atStart => exact ⟨rfl, k0, 0, sc, l0, false, rfl, HGO.out, HPS, HRW.out, hsc1, hsc2, hk0, HGA.out, HRB.out⟩
    case round =>
      clear HGO HPS HRW HGA HRB hsc1 hsc2 hk0
      obtain ⟨rfl, k, off, sc, l, d, hg, hgo, hps, hrw, hs1, hs2, hkb, hgr, hrb⟩ := hrel
      have HG := Lib.hid hg; have HGO := Lib.hid hgo; have HRW := Lib.hid hrw; have HGR := Lib.hid hgr; have HRB := Lib.hid hrb
      have cr0 := cell_block hrb 0 (by simp)
      have cr1 := cell_block hrb 1 (by simp)
      have fr0 := frozen_block hrb 0
      have fr1 := frozen_block hrb 1
      simp only [List.getElem_toArray, List.getElem_cons_zero, List.getElem_cons_succ] at cr0 cr1
      have HROW : Hid (Row wr.heap.size wr (.slice (some ⟨k, off, none⟩) l.length sc) (nats l)) := Lib.hid (.inr ⟨k, off, sc, by rw [nats_length], hrw.1, by rw [nats_length]; exact hs1, hs2, hrw⟩)
      clear hg hgo hrw hgr hrb
      cases d with
      | true =>
        go_wp2
        refine bodyPost_ret (v := .tuple #[.slice (some ⟨k, off, none⟩) l.length sc, .int .i64 0]) (by simp [results, Tryd.results29, go_sem]) rfl ?_
        refine ⟨HGR.out, .inr ⟨HZ.out, _, rfl, ?_⟩⟩
        have := HGO.out.stop HTB.out HF0.out
        unfold closeL
        rw [← HL0.out, ← this]
        exact HROW.out
      | false =>
        have hadv := radvance_any wr.heap.size wr v iv (.slice (some ⟨k, off, none⟩) l.length sc) t im (intL l) false 1 (Nat.le_refl _) ((H.out.kept HGR.out (by simp)).mono (by have := HGR.out.size; omega)) ((HI.out.kept HGR.out (by simp)).mono (by have := HGR.out.size; omega)) (by have := HROW.out; rw [natsI] at this; exact this)
        have hE : advE t im (intL l) 1 = 0 := advE_ok HZ.out (by omega) (famB_int HGO.out.1 hps.out)
        have hL : advL t (intL l) false 1 = (roundSets t.length (entN t) l, decide (roundSets t.length (entN t) l = l)) := by
          unfold advL
          rw [natL_intL]
          show roundsGo _ _ (0 + 1) _ = _
          rw [roundsGo_step]; rfl
        have HADV := Lib.hid hadv
        have HE0 := Lib.hid hE; have HL1 := Lib.hid hL
        have HP3 : Hid (Pos (roundSets t.length (entN t) l)) := Lib.hid (hps.out.round HTB.out HGO.out.1.1)
        have HM : Hid (togo t.length (roundSets t.length (entN t) l) (decide (roundSets t.length (entN t) l = l)) < togo t.length l false) := Lib.hid (HGO.out.less HTB.out)
        have HGN := Lib.hid (HGO.out.step HTB.out)
        clear hadv hE hL
        go_wp2_with fail
        refine HADV.out.mono ?_
        rintro e w3 ⟨hg3, hc3⟩
        rcases hc3 with ⟨hne, _⟩ | ⟨_, v3, rfl, hrow3⟩
        · exact absurd HE0.out hne
        rw [HL1.out] at hrow3 ⊢
        obtain ⟨R, hR⟩ : ∃ R, R = roundSets t.length (entN t) l := ⟨_, rfl⟩
        obtain ⟨D, hD⟩ : ∃ D, D = decide (roundSets t.length (entN t) l = l) := ⟨_, rfl⟩
        rw [← hD, ← hR] at HM HGN
        rw [← hR] at HP3
        dsimp only at hrow3 ⊢
        rw [← hD]
        rw [← hR] at hrow3
        obtain ⟨a3, c3, rfl⟩ := hrow3.shape
        rw [nats_length] at hrow3 ⊢
        have hr3 := block_kept HRB.out hg3 (by simp)
        obtain ⟨k3, o3, rfl, _, h31, h32, h33, h34⟩ := row_not_box hrow3 HP3.out.1 hr3 (by intro z; simp) (by intro z; simp)
        have HR3 := Lib.hid hr3; have HRW3 := Lib.hid h33
        have cr0' := cell_block hr3 0 (by simp)
        have cr1' := cell_block hr3 1 (by simp)
        have fr0' := frozen_block hr3 0
        have fr1' := frozen_block hr3 1
        simp only [List.getElem_toArray, List.getElem_cons_zero, List.getElem_cons_succ] at cr0' cr1'
        have HG3 : Hid (w.grownBy w3 none) := Lib.hid (grownBy_trans' HGR.out hg3)
        clear hrow3 hr3 h33 hg3 hR hD cr0 cr1 fr0 fr1
        go_wp2
        have hs5 : w3.grownBy ((w3.setCell ⟨bx, 0, none⟩ (.slice (some ⟨k3, o3, none⟩) R.length c3)).setCell ⟨bx, 1, none⟩ (.bool D)) (some bx) :=
          grownBy_trans' (grownBy_setCell w3 ⟨bx, 0, none⟩ _) (grownBy_setCell (w3.setCell ⟨bx, 0, none⟩ (.slice (some ⟨k3, o3, none⟩) R.length c3)) ⟨bx, 1, none⟩ _)
        have HR5 := Lib.hid (fam_set HR3.out (.slice (some ⟨k3, o3, none⟩) R.length c3) (.bool D))
        have HG5 := Lib.hid hs5
        clear hs5
        go_roundg (togo t.length R D)
        case measure => rw [HG.out]; exact HM.out
        case rel => exact ⟨rfl, k3, o3, c3, R, D, rfl, HGN.out, HP3, HRW3.out.kept HG5.out (fun e => h34 (Option.some.inj e).symm), h31, h32, h34, grown_far HG3.out HG5.out (fun x e => by have : bx = x := Option.some.inj e; omega), HR5.out⟩
end Go.Proofs.YtdjhoadoiknaoaaDoor
namespace Go.Proofs.YtdjhoadoiknaoaaDoor
open Go.RowKit
set_option maxHeartbeats 400000 in
theorem lawsame_any (B C : Nat) (w : World) (va vb : Value) (xs ys : List Int) (d e : Bool) (hB : B ≤ w.heap.size) (hC : C ≤ w.heap.size) (ha : Row B w va (ints xs)) (hb : Row C w vb (ints ys)) :
    Calls Tryd.prog 26 #[.agg #[va, .bool d], .agg #[vb, .bool e]] w fun r w' => r = .returned (.bool (decide (xs = ys) && (d == e))) ∧ w.grownBy w' none := by
  obtain ⟨wA, hWA⟩ : ∃ wA, wA = (w.alloc (.cells #[va, .bool d] 49)).alloc (.cells #[vb, .bool e] 49) := ⟨_, rfl⟩
  obtain ⟨h1, h2, h3, _⟩ := two_boxes w #[va, .bool d] #[vb, .bool e] 49
  rw [← hWA] at h1 h2 h3
  have HB1 := Lib.hid h1; have HB2 := Lib.hid h2; have HGA := Lib.hid h3
  have HS := Lib.hid (same03_any B C wA va vb xs ys (ha.kept h3 (by simp)) (hb.kept h3 (by simp)))
  have HWA := Lib.hid hWA
  clear h1 h2 h3 ha hb hWA
  go_enter Tryd.func26, Tryd.ntmps26
  have ca0 := cell_block HB1.out 0 (by simp)
  have ca1 := cell_block HB1.out 1 (by simp)
  have cb0 := cell_block HB2.out 0 (by simp)
  have cb1 := cell_block HB2.out 1 (by simp)
  simp only [List.getElem_toArray, List.getElem_cons_zero, List.getElem_cons_succ] at ca0 ca1 cb0 cb1
  go_upto_region 1 with fail
  rw [← HWA.out]
  go_wp2_with fail
  refine HS.out.mono ?_
  rintro r w1 ⟨rfl, m, rfl⟩
  cases hd : decide (xs = ys) with
  | false =>
    go_wp2
    go_ret
    exact ⟨ret_bool (by rw [hd]; rfl), grownBy_trans' HGA.out (grownBy_drewN _ _ _)⟩
  | true =>
    go_wp2
    go_ret
    refine ⟨ret_bool ?_, grownBy_trans' HGA.out (grownBy_drewN _ _ _)⟩
    rw [hd]
    cases d <;> cases e <;> rfl
end Go.Proofs.YtdjhoadoiknaoaaDoor
namespace Go.Proofs.YtdjhoadoiknaoaaDoor
open Go.RowKit
noncomputable def derE (t : List (List Int)) (im : List Int) (s : Int) : Int :=
  if checkE t im ≠ 0 then checkE t im else if s = 0 ∨ setB t.length s = false then 1 else if withinB (intL (closeL t im)) s = true then 0 else 9
theorem derE_check {t : List (List Int)} {im : List Int} {s : Int} (h : checkE t im ≠ 0) : derE t im s = checkE t im := by rw [derE, if_pos h]
theorem derE_arg {t : List (List Int)} {im : List Int} {s : Int} (h : checkE t im = 0) (hs : s = 0 ∨ setB t.length s = false) : derE t im s = 1 := by rw [derE, if_neg (by omega), if_pos hs]
theorem derE_in {t : List (List Int)} {im : List Int} {s : Int} (h : checkE t im = 0) (hs : ¬ (s = 0 ∨ setB t.length s = false)) : derE t im s = if withinB (intL (closeL t im)) s = true then 0 else 9 := by rw [derE, if_neg (by omega), if_neg hs]
set_option maxHeartbeats 400000 in
theorem derives_any (B : Nat) (w : World) (v iv : Value) (t : List (List Int)) (im : List Int) (s : Int) (hB : B ≤ w.heap.size) (h : Mat B w v t) (hi : Row B w iv (ints im)) :
    Calls Tryd.prog 37 #[v, iv, .int .i64 s] w fun e w' => e = .returned (.int .i64 (derE t im s)) ∧ w.grownBy w' none := by
  have HM := Lib.hid (may_any B w v iv t im h hi)
  have H := Lib.hid h; have HI := Lib.hid hi
  obtain ⟨ta, tc, rfl⟩ := h.shape
  clear h hi
  go_enter Tryd.func37, Tryd.ntmps37
  go_wp2_with fail
  refine HM.out.mono ?_
  rintro e w1 ⟨rfl, m, rfl⟩
  have HG1 := Lib.hid (grownBy_drewN w m none)
  by_cases hz : checkE t im = 0
  · rw [hz]
    have HZ := Lib.hid hz
    have hle := (checkE_good.1 hz).le
    clear hz
    by_cases h0 : s = 0
    · have HE := Lib.hid (derE_arg (s := s) HZ.out (.inl h0))
      subst h0
      go_wp2
      go_ret
      exact ⟨ret_int HE.out.symm, HG1.out⟩
    · have e1 : (s == 0) = false := by rw [beq_eq_false_iff_ne]; exact h0
      go_wp2_with fail
      refine (isSet_any _ ta t.length tc s hle).mono ?_
      rintro e w2 ⟨rfl, rfl⟩
      cases hs : setB t.length s with
      | false =>
        have HE := Lib.hid (derE_arg HZ.out (.inr hs))
        clear hs
        go_wp2
        go_ret
        exact ⟨ret_int HE.out.symm, HG1.out⟩
      | true =>
        have HE := Lib.hid (derE_in (s := s) HZ.out (by rw [hs]; simp [h0]))
        have HC := Lib.hid (rclosure_any B (w.drewN m) _ iv t im hB (H.out.kept HG1.out (by simp)) (HI.out.kept HG1.out (by simp)))
        clear hs
        go_wp2_with fail
        refine HC.out.mono ?_
        rintro e w3 ⟨hg3, hc3⟩
        rcases hc3 with ⟨hne, _⟩ | ⟨_, v3, rfl, hrow3⟩
        · exact absurd HZ.out hne
        rw [natsI] at hrow3
        have HW := Lib.hid (within_any _ w3 v3 (intL (closeL t im)) s hrow3)
        have HG3 := Lib.hid hg3
        clear hrow3 hg3
        go_wp2_with fail
        refine HW.out.mono ?_
        rintro e w4 ⟨rfl, rfl⟩
        cases hw : withinB (intL (closeL t im)) s with
        | true =>
          rw [hw] at HE
          go_wp2
          go_ret
          exact ⟨ret_int (by rw [HE.out]; rfl), grownBy_trans' HG1.out HG3.out⟩
        | false =>
          rw [hw] at HE
          go_wp2
          go_ret
          exact ⟨ret_int (by rw [HE.out]; rfl), grownBy_trans' HG1.out HG3.out⟩
  · have HE := Lib.hid (derE_check (s := s) hz)
    obtain ⟨E, hE⟩ : ∃ E, E = checkE t im := ⟨_, rfl⟩
    rw [← hE] at hz HE ⊢
    have e1 : (E != 0) = true := by rw [bne_iff_ne]; exact hz
    clear hE
    go_wp2
    go_ret
    exact ⟨ret_int HE.out.symm, HG1.out⟩
end Go.Proofs.YtdjhoadoiknaoaaDoor
