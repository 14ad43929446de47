/- The law PatternReversed: the walk. -/
import Derived.Test.YtgbfaggnnfoamaaKnown
import Derived.Test.YtgbfaggnnfoamaaBack
import Derived.Test.YtgbfaggnnfoamaaRevPlain
import Derived.Deep.RegionHeld3
import Derived.Deep.RegionLaw
namespace Go.Proofs.Ytgbfaggnnfoamaa
open Go.RowKit

def revTo (bs : List (List Int)) (k : Nat) : List (List Int) := ((bs.drop k).reverse).map List.reverse
theorem revTo_step (bs : List (List Int)) (k : Nat) (hk : k < bs.length) : revTo bs k = revTo bs (k + 1) ++ [bs[k].reverse] := by
  rw [revTo, List.drop_eq_getElem_cons hk, List.reverse_cons, List.map_append]; rfl
theorem revTo_length (bs : List (List Int)) (k : Nat) : (revTo bs k).length = bs.length - k := by simp [revTo]

/-- 'append(v, u)' of one element that 'buildSlice' has just laid, as one step of a region that draws. -/
theorem step_app1 {P : Program} {ops : Array Oper} {o : Oper} {a : Act} {w : World} {K : Act → World → Prop} {Q : Exit → Act → World → Prop} {R : Prop} (hgd : o.guard = none) (s x : Operand) (t : TypeId)
    (ho : o.op = .call { callee := .builtin .append, args := #[s, x], argTypes := #[t, t] })
    {e : TypeId} {z : Value} {bytes : Nat} (E : ElemOk P t e z bytes) (base : Nat) (v : Value) (n : Nat) (xs : List Value) (hs : a.eval s = v) (hown : w.ownsRow base e 1 v n xs)
    (u : Value) (blk : Nat) (m : Nat × Nat) (hx : a.eval x = .slice (some ⟨blk, 0, none⟩) 1 1) (hblk : w.heap[blk]? = some (.cells #[u] e m)) (h1 : u.oneCell' = true) (h63 : n + 1 ≤ maxLen) (hbytes : (n + 1) * bytes ≤ 140737488355328) (hbase : base ≤ w.heap.size)
    (h : ∀ sa sc w', w'.ownsRow base e 1 (.slice sa (n + 1) sc) (n + 1) (xs ++ [u]) → w.grownBy w' v.ownBlock → K (a.put o.dst (.slice sa (n + 1) sc)) w') :
    if Region.wanted o (yielded ops a.tmps) = true then Oper.wp P o a w K Q else R := by
  have hw : Region.wanted o (yielded ops a.tmps) = true := by simp [Region.wanted, hgd]
  rw [if_pos hw]
  obtain ⟨i, hi, hz, hsz, hby⟩ := info_parts E.hi
  refine wp_append_own w s x t ho base e i z 1 bytes E.ht hi hz hsz hby E.hz (by decide) v n xs hs hown ⟨blk, 0, none⟩ 1 1 [u] hx rfl ?_ ?_ h63 hbytes hbase ?_
  · intro j u' hj
    match j, hj with
    | 0, hj => simp at hj; subst hj; simpa [Addr.add] using cell_block hblk 0 (by simp)
  · intro u' hu; simp at hu; subst hu; exact h1
  · intro v' w' h1 h2 _
    obtain ⟨sa, sc, rfl⟩ := owns_shape h1
    exact h sa sc w' h1 h2

set_option maxRecDepth 100000 in
set_option maxHeartbeats 1000000 in
theorem reversed_walk (w : World) (v0 v1 : Value) (z0 z1 : List Int) (h0 : Row w.heap.size w v0 (z0.map (Value.int .i64))) (h1 : Row w.heap.size w v1 (z1.map (Value.int .i64))) (hL : SomeLen w) :
    Calls Try.prog 6 #[v0, v1] w fun e w' => e = .returned (.bool true) ∧ w.grownBy w' none := by
  go_enter Try.func6, Try.ntmps6
  go_wp2_with fail
  refine (new_any w.heap.size w v0 z0 h0 (Nat.le_refl _)).mono ?_
  rintro e w1 ⟨rfl, hT1, hg1⟩
  have hs1 := hT1.lt
  go_wp2_with fail
  refine (next_any w.heap.size w.heap.size w1 3 (by omega) hT1).mono ?_
  rintro e w2 ⟨r, rfl, hr0, hr3, hT2, hg2⟩
  replace hr3 := hr3 (by omega)
  have gw2 : w.grownBy w2 none := grown_far hg1 hg2 (by simp)
  go_wp2_with fail
  refine (pattern_any w.heap.size w.heap.size w2 (1 + r) (by omega) (by omega) hT2).mono ?_
  rintro e w3 ⟨pv, bs, rfl, hrow, hgood, hT3, hg3⟩
  have gw3 : w.grownBy w3 none := grown_far gw2 hg3 (by simp)
  obtain ⟨b, off, cap, rfl, hc1, hc2, hra⟩ := hrow.found (by have := hgood.2.1; simp [strs]; exact List.length_pos_iff.2 this)
  rw [strs_length] at *
  clear hT1 hg1 hT2 hg2 hT3 hg3
  go_wp2_with fail
  have gA : w3.grownBy (w3.alloc (.cells #[.slice (some ⟨b, off, none⟩) bs.length cap] 36)) none := World.grownBy_alloc _ _ _
  have hs3 := gw3.size
  refine (new_any w.heap.size _ v1 z1 ((h1.kept gw3 (by simp)).kept gA (by simp)) (by rw [alloc_size]; omega)).mono ?_
  rintro e w4 ⟨rfl, hT4, hg4⟩
  rw [alloc_size] at hT4 ⊢
  have hs4 := hT4.lt
  have bp := block_kept (heap_alloc_new w3 (.cells #[.slice (some ⟨b, off, none⟩) bs.length cap] 36)) hg4 (by simp)
  have ra4 := (hra.kept gA (by simp)).kept hg4 (by simp)
  have gw4 : w.grownBy w4 none := grownBy_trans' (grownBy_trans' gw3 gA) hg4
  have hbs4 : bs.length ≤ 4 := hgood.1
  have hb3 : b < w3.heap.size := hra.1
  have hcm' : cap ≤ 9223372036854775807 := by unfold maxLen at hc2; omega
  have HC2 := Lib.hid hc2
  have HG := Lib.hid hgood
  clear hra gA hg4 hc2 h0 h1 hgood
  go_wp2_with fail
  refine (word_any w.heap.size (w3.heap.size + 1) w4 (1 + r) 12 (by omega) (by omega) (by omega) (by omega) hT4).mono ?_
  rintro e w5 ⟨l, rfl, hl, hok, hT5, hg5⟩
  have bp5 := block_kept bp hg5 (by simp)
  have ra5 := ra4.kept hg5 (by simp; omega)
  have gw5 := grown_far gw4 hg5 (by simp; omega)
  have hs5 := hg5.size
  have hcp := cell_block bp5 0 (by simp)
  simp only [List.getElem_toArray, List.getElem_cons_zero] at hcp
  have BP5 := Lib.hid bp5
  have hlt35 : w3.heap.size < w5.heap.size := by omega
  clear bp ra4 gw4 hg5 hT4 hT5 bp5
  go_wp2
  have HCP := Lib.hid hcp; clear hcp
  go_loopw [10] (fun i wr => ∃ (k : Nat) (sa : Option Addr) (sc : Nat), i = .int .i64 ((k : Int) - 1) ∧ k ≤ bs.length ∧
      wr.heap[w5.heap.size]? = some (.cells #[.slice sa (bs.length - k) sc] 36 (0, 0)) ∧
      wr.ownsRow (w5.heap.size + 1) 9 1 (.slice sa (bs.length - k) sc) (bs.length - k) (strs (revTo bs k)) ∧ RowAt wr b off (strs bs) ∧
      wr.heap[w3.heap.size]? = some (.cells #[.slice (some ⟨b, off, none⟩) bs.length cap] 36 (0, 0)) ∧ w.grownBy wr none ∧ w5.heap.size < wr.heap.size)
    (fun i _ => (intOf i + 1).toNat)
  case atStart =>
    refine ⟨bs.length, none, 0, rfl, Nat.le_refl _, by rw [Nat.sub_self]; exact heap_alloc_new w5 _, by rw [Nat.sub_self, revTo, List.drop_length]; exact World.ownsRow_nil _ _ _ _, ra5.kept (World.grownBy_alloc _ _ none) (by simp), block_kept BP5.out (World.grownBy_alloc _ _ none) (by simp), grown_alloc gw5 _, by rw [alloc_size]; omega⟩
  case round =>
    clear ra5 gw5 BP5 HCP
    obtain ⟨k, sa, sc, rfl, hk, bq, hown, rar, bpr, gr, hsz⟩ := hrel
    have BQ := Lib.hid bq; have BPR := Lib.hid bpr
    have hcq := cell_block bq 0 (by simp)
    have hfq := frozen_block bq 0
    have hcp := cell_block bpr 0 (by simp)
    simp only [List.getElem_toArray, List.getElem_cons_zero] at hcq hcp
    clear bq bpr
    by_cases hp : 0 < k
    · obtain ⟨j, rfl⟩ : ∃ j, k = j + 1 := ⟨k - 1, by omega⟩
      have hj : j < bs.length := by omega
      have hcj := rar.map j hj
      have hbl : bs[j].length ≤ 2 := (HG.out.2.2 j hj).1
      have e1 : ((j + 1 : Nat) : Int) - 1 = j := by omega
      rw [e1]
      have hj1 : (0 : Int) ≤ (j : Int) := by omega
      have hj2 : (j : Int) < (bs.length : Int) := by omega
      clear e1
      obtain ⟨wo, rfl⟩ : ∃ wo : World, wo = wr := ⟨_, rfl⟩
      have OW := Lib.hid hown; have OT := Lib.hid (owns_ne hown BQ.out (by decide)); have OB := Lib.hid (hown.lt)
      have HKP : Hid (∀ w' : World, ((wo.alloc (.cells #[.string (strOfNums bs[j].reverse)] 9)).drew).grownBy w' (Value.slice sa (bs.length - (j + 1)) sc).ownBlock → w'.cell? ⟨w5.heap.size, 0, none⟩ = some (.slice sa (bs.length - (j + 1)) sc) ∧ w'.cell? ⟨w3.heap.size, 0, none⟩ = some (.slice (some ⟨b, off, none⟩) bs.length cap) ∧ w'.cell? ⟨b, off + j, none⟩ = some (.string (strOfNums bs[j]))) := by
        intro w' hg
        have g0 : wo.grownBy (wo.alloc (.cells #[.string (strOfNums bs[j].reverse)] 9)).drew none := grownBy_same (World.grownBy_alloc _ _ none) rfl rfl rfl rfl
        have q1 := cell_block (block_kept (block_kept BQ.out g0 (by simp)) hg (owns_ne hown BQ.out (by decide))) 0 (by simp)
        have q2 := cell_block (block_kept (block_kept BPR.out g0 (by simp)) hg (owns_ne hown BPR.out (by decide))) 0 (by simp)
        have q3 := ((rar.kept g0 (by simp)).kept hg (fun e => by have := (hown.lt b e).1; omega)).map j hj
        exact ⟨by simpa using q1, by simpa using q2, q3⟩
      have HFZ : Hid (∀ w' : World, ((wo.alloc (.cells #[.string (strOfNums bs[j].reverse)] 9)).drew).grownBy w' (Value.slice sa (bs.length - (j + 1)) sc).ownBlock → w'.frozen? ⟨w5.heap.size, 0, none⟩ = false ∧ w'.heap[w5.heap.size]? = some (.cells #[.slice sa (bs.length - (j + 1)) sc] 36 (0, 0)) ∧ RowAt w' b off (strs bs) ∧ w'.heap[w3.heap.size]? = some (.cells #[.slice (some ⟨b, off, none⟩) bs.length cap] 36 (0, 0)) ∧ w.grownBy w' none ∧ wo.heap.size ≤ w'.heap.size) := by
        intro w' hg
        have g0 : wo.grownBy (wo.alloc (.cells #[.string (strOfNums bs[j].reverse)] 9)).drew none := grownBy_same (World.grownBy_alloc _ _ none) rfl rfl rfl rfl
        have q1 := block_kept (block_kept BQ.out g0 (by simp)) hg (owns_ne hown BQ.out (by decide))
        have q2 := block_kept (block_kept BPR.out g0 (by simp)) hg (owns_ne hown BPR.out (by decide))
        have q3 := (rar.kept g0 (by simp)).kept hg (fun e => by have := (hown.lt b e).1; omega)
        exact ⟨frozen_block q1 0, q1, q3, q2, grown_far (grownBy_trans' gr g0) hg (fun x e => by have := (hown.lt x e).1; omega), Nat.le_trans g0.size hg.size⟩
      clear hown
      go_wp2
      go_region_law (first | (go_simp; go_at_call 20; refine (back_any bs[j] _ (by omega)).mono ?_; rintro e w' ⟨rfl, rfl⟩) | (refine step_app1 ?g1 (.tmp 32) (.tmp 39) 34 ?g2 elem_str (w5.heap.size + 1) (.slice sa (bs.length - (j + 1)) sc) (bs.length - (j + 1)) (strs (revTo bs (j + 1))) ?g3 ?g4 (.string (strOfNums bs[j].reverse)) wo.heap.size (0, 0) ?g5 ?g6 ?g7 ?g8 ?g9 ?g10 ?_; (case g1 => rfl); (case g2 => rfl); (case g3 => rfl); (case g4 => exact (OW.out.alloc _).drew); (case g5 => rfl); (case g6 => exact heap_alloc_new wo _); (case g7 => rfl); (case g8 => (unfold maxLen; omega)); (case g9 => omega); (case g10 => (simp; omega)); intro sa' sc' w6 hown6 hg6; have hfz6 := (HFZ.out _ hg6).1; have hcz6 := (HKP.out _ hg6).1) | fail)
      all_goals
        have hz6 := Lib.hid (HFZ.out _ hg6)
        have ho6 := Lib.hid hown6
        clear hown6 hg6 hfz6 hcz6
        try go_frame
        go_wp2
        go_roundw
        case rel =>
          have hl1 : bs.length - (j + 1) + 1 = bs.length - j := by omega
          have hrel2 : ∃ (k : Nat) (sa : Option Addr) (sc : Nat), Value.int .i64 ((j : Int) - 1) = .int .i64 ((k : Int) - 1) ∧ k ≤ bs.length ∧
              (w6.setCell ⟨w5.heap.size, 0, none⟩ (.slice sa' (bs.length - (j + 1) + 1) sc')).heap[w5.heap.size]? = some (.cells #[.slice sa (bs.length - k) sc] 36 (0, 0)) ∧
              (w6.setCell ⟨w5.heap.size, 0, none⟩ (.slice sa' (bs.length - (j + 1) + 1) sc')).ownsRow (w5.heap.size + 1) 9 1 (.slice sa (bs.length - k) sc) (bs.length - k) (strs (revTo bs k)) ∧ RowAt (w6.setCell ⟨w5.heap.size, 0, none⟩ (.slice sa' (bs.length - (j + 1) + 1) sc')) b off (strs bs) ∧
              (w6.setCell ⟨w5.heap.size, 0, none⟩ (.slice sa' (bs.length - (j + 1) + 1) sc')).heap[w3.heap.size]? = some (.cells #[.slice (some ⟨b, off, none⟩) bs.length cap] 36 (0, 0)) ∧ w.grownBy (w6.setCell ⟨w5.heap.size, 0, none⟩ (.slice sa' (bs.length - (j + 1) + 1) sc')) none ∧ w5.heap.size < (w6.setCell ⟨w5.heap.size, 0, none⟩ (.slice sa' (bs.length - (j + 1) + 1) sc')).heap.size := by
            have hg := grownBy_setCell w6 ⟨w5.heap.size, 0, none⟩ (.slice sa' (bs.length - (j + 1) + 1) sc')
            refine ⟨j, sa', sc', rfl, by omega, ?_, ?_, hz6.out.2.2.1.kept hg (by simp; omega), block_kept hz6.out.2.2.2.1 hg (by simp; omega), grown_far hz6.out.2.2.2.2.1 hg (by simp; omega), Nat.lt_of_lt_of_le hsz (Nat.le_trans hz6.out.2.2.2.2.2 hg.size)⟩
            · rw [← hl1]; exact heap_setCell_same w6 _ 0 _ _ _ hz6.out.2.1
            · have := ho6.out.kept hg (.inr (owns_ne ho6.out hz6.out.2.1 (by decide)))
              rw [revTo_step bs j hj, strs_append, ← hl1]; exact this
          first
            | exact hrel2
            | ((repeat apply Exists.intro); exact ⟨hrel2, rfl⟩)
        case measure => simp [intOf]
    · have hm : patMatch ((revTo bs 0).map strOfNums) (strOfNums l.reverse) = patMatch (bs.map strOfNums) (strOfNums l) := by rw [revTo, List.drop_zero]; exact reversed_plain (by omega) HG.out hok (by omega)
      obtain rfl : k = 0 := by omega
      rw [Nat.sub_zero] at hown hcq BQ
      obtain ⟨m, hm1⟩ : ∃ m, m = patMatch (bs.map strOfNums) (strOfNums l) := ⟨_, rfl⟩
      obtain ⟨wo, rfl⟩ : ∃ wo : World, wo = wr := ⟨_, rfl⟩
      have hLo := hL.kept gr (by simp)
      have em : strs bs = (bs.map strOfNums).map Value.string := by simp [strs]
      have em2 : strs (revTo bs 0) = ((revTo bs 0).map strOfNums).map Value.string := by simp [strs]
      have hrl : (revTo bs 0).length = bs.length := by rw [revTo_length]; omega
      have hsz1 : ∀ i (h : i < (bs.map strOfNums).length), (bs.map strOfNums)[i].size ≤ 140737488351232 := by
        intro i h
        rw [List.length_map] at h
        have := (HG.out.2.2 i h).1
        rw [List.getElem_map, strOfNums_size]; omega
      have hsz2 : ∀ i (h : i < ((revTo bs 0).map strOfNums).length), ((revTo bs 0).map strOfNums)[i].size ≤ 140737488351232 := by
        intro i h
        rw [List.getElem_map, strOfNums_size]
        have hi : i < bs.length := by rw [List.length_map, hrl] at h; exact h
        have := (HG.out.2.2 (bs.length - 1 - i) (by omega)).1
        simp only [revTo, List.drop_zero, List.getElem_map, List.getElem_reverse, List.length_reverse]; omega
      have HM1 : Hid (∀ W, wo.grownBy W none → Calls Try.prog 19 #[.agg #[.slice (some ⟨b, off, none⟩) bs.length cap], .string (strOfNums l)] W fun e w' => e = .returned (.bool m) ∧ wo.grownBy w' none) := by
        intro W hW
        have ra := rar.kept hW (by simp)
        rw [em] at ra
        have := match_any b off cap (bs.map strOfNums) (strOfNums l) W (by rw [List.length_map]; exact hc1) HC2.out ra hsz1 (by rw [strOfNums_size]; omega) (hLo.kept hW (by simp))
        rw [List.length_map] at this
        exact this.mono fun e w' ⟨he, hg⟩ => ⟨by rw [he, hm1], grownBy_trans' hW hg⟩
      have hlen0 : 0 < bs.length := List.length_pos_iff.2 HG.out.2.1
      obtain ⟨bq, oq, cq, hvq, hcq1, hcq2, hrq⟩ := (Row.of_owns hown).found (by rw [strs_length, hrl]; exact hlen0)
      rw [strs_length, hrl] at hvq hcq1
      have hq : sa = some ⟨bq, oq, none⟩ ∧ sc = cq := by simp at hvq; exact hvq
      obtain ⟨rfl, rfl⟩ := hq
      have HM2 : Hid (∀ W, wo.grownBy W none → Calls Try.prog 19 #[.agg #[.slice (some ⟨bq, oq, none⟩) bs.length sc], .string (strOfNums l.reverse)] W fun e w' => e = .returned (.bool m) ∧ wo.grownBy w' none) := by
        intro W hW
        have ra := hrq.kept hW (by simp)
        rw [em2] at ra
        have := match_any bq oq sc ((revTo bs 0).map strOfNums) (strOfNums l.reverse) W (by rw [List.length_map, hrl]; exact hcq1) hcq2 ra hsz2 (by rw [strOfNums_size]; simp; omega) (hLo.kept hW (by simp))
        rw [List.length_map, hrl] at this
        exact this.mono fun e w' ⟨he, hg⟩ => ⟨by rw [he, hm, hm1], grownBy_trans' hW hg⟩
      have HK : Hid (∀ W, wo.grownBy W none → Calls Try.prog 14 #[] W fun e w' => e = .returned (.bool true) ∧ wo.grownBy w' none) := by
        intro W hW
        exact (known_any W (hLo.kept hW (by simp))).mono fun e w' ⟨he, hg⟩ => ⟨he, grownBy_trans' hW hg⟩
      have HC : Hid (∀ W, wo.grownBy W none → W.cell? ⟨w3.heap.size, 0, none⟩ = some (.slice (some ⟨b, off, none⟩) bs.length cap) ∧ W.cell? ⟨w5.heap.size, 0, none⟩ = some (.slice (some ⟨bq, oq, none⟩) bs.length sc)) := by
        intro W hW
        have q1 := cell_block (block_kept BPR.out hW (by simp)) 0 (by simp)
        have q2 := cell_block (block_kept BQ.out hW (by simp)) 0 (by simp)
        exact ⟨by simpa using q1, by simpa using q2⟩
      have GA : wo.grownBy wo.drew none := grownBy_drew _ _
      clear hm hm1 hown rar hLo em em2 hsz1 hsz2 hrq hvq hrl
      go_wp2
      go_region_held3 (fun w' => w'.cell? ⟨w3.heap.size, 0, none⟩ = some (.slice (some ⟨b, off, none⟩) bs.length cap) ∧ w'.cell? ⟨w5.heap.size, 0, none⟩ = some (.slice (some ⟨bq, oq, none⟩) bs.length sc))
        (first | go_keep | exact HC.out _ hG7 | exact HC.out _ hG8 | exact HC.out _ hG9 | fail)
        (first | (go_at_call 20; refine (back_any l _ (by omega)).mono ?_; rintro e w' ⟨rfl, rfl⟩) | (go_at_call 19; (with_reducible refine (HM1.out _ GA).mono ?_); rintro e w7 ⟨rfl, hG7⟩) | (go_at_call 19; (with_reducible refine (HM2.out _ hG7).mono ?_); rintro e w8 ⟨rfl, hG8⟩) | (go_at_call 14; refine (HK.out _ hG8).mono ?_; rintro e w9 ⟨rfl, hG9⟩) | fail)
      go_wp2
      go_ret
      exact ⟨rfl, grownBy_trans' gr hG9⟩
end Go.Proofs.Ytgbfaggnnfoamaa
