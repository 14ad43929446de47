/- The law PatternBuilt: the walk. -/
import Derived.Test.YtgbfaggnnfoamaaKnown
import Derived.Test.YtgbfaggnnfoamaaFits
import Derived.Test.YtgbfaggnnfoamaaMadePat
namespace Go.Proofs.Ytgbfaggnnfoamaa
open Go.RowKit

/-- The word x is made of the blocks, the last one first, with words over the letters between them. -/
def Glued (letters : Int) : List (List Int) → List Int → Prop
  | [], x => x = []
  | [b], x => x = b
  | b :: c :: rest, x => ∃ y v : List Int, x = y ++ v ++ b ∧ (∀ n ∈ v, okNum letters n) ∧ v.length ≤ 6 ∧ Glued letters (c :: rest) y

theorem strOfNums_append (a b : List Int) : strOfNums (a ++ b) = strOfNums a ++ strOfNums b := by
  have h : (strOfNums (a ++ b)).data = (strOfNums a ++ strOfNums b).data := by
    rw [ByteArray.data_append]
    simp [strOfNums]
  exact ByteArray.ext h
theorem glued_step {letters : Int} {bs : List (List Int)} {k : Nat} (hk : k < bs.length) (h0 : 0 < k) {x v : List Int} (h : Glued letters ((bs.take k).reverse) x) (ho : ∀ n ∈ v, okNum letters n) (hv : v.length ≤ 6) :
    Glued letters ((bs.take (k + 1)).reverse) (x ++ v ++ bs[k]) := by
  rw [List.take_succ_eq_append_getElem hk, List.reverse_append, List.reverse_singleton, List.singleton_append]
  match hr : (bs.take k).reverse, h with
  | [], _ => have := congrArg List.length hr; rw [List.length_reverse, List.length_take, List.length_nil] at this; omega
  | c :: rest, h => exact ⟨x, v, rfl, ho, hv, h⟩
theorem glued_first {letters : Int} {bs : List (List Int)} {k : Nat} (hk : k < bs.length) (h0 : k = 0) {x : List Int} (h : Glued letters ((bs.take k).reverse) x) : Glued letters ((bs.take (k + 1)).reverse) (x ++ bs[k]) := by
  subst h0
  have hx : x = [] := h
  subst hx
  rw [List.take_succ_eq_append_getElem hk]
  rfl
theorem glued_pre {letters : Int} : ∀ (L : List (List Int)) (x : List Int), Glued letters L x → L ≠ [] → ∃ b0 us r, L.reverse.map byt = b0 :: us ∧ byt x = b0 ++ r ∧ Pre us r
  | [b], x, h, _ => ⟨byt b, [], [], rfl, by have h' : x = b := h; rw [h']; simp, rfl⟩
  | b :: c :: rest, x, ⟨y, v, hx, _, _, hy⟩, _ => by
    obtain ⟨b0, us, r, h1, h2, h3⟩ := glued_pre (c :: rest) y hy (by simp)
    refine ⟨b0, us ++ [byt b], r ++ byt v ++ byt b, ?_, ?_, h3.snoc _ _⟩
    · rw [List.reverse_cons, List.map_append, h1]; rfl
    · rw [hx, byt_append, byt_append, h2]; simp only [List.append_assoc]
theorem glued_ok {letters : Int} : ∀ (L : List (List Int)) (x : List Int), Glued letters L x → (∀ b ∈ L, ∀ n ∈ b, okNum letters n) → (∀ n ∈ x, okNum letters n)
  | [], x, h, _ => by have h' : x = [] := h; rw [h']; simp
  | [b], x, h, hb => by have h' : x = b := h; rw [h']; exact hb b (by simp)
  | b :: c :: rest, x, ⟨y, v, hx, ho, _, hy⟩, hb => by
    have h1 := glued_ok (c :: rest) y hy fun d hd => hb d (by simp at hd ⊢; exact .inr hd)
    rw [hx]
    intro n hn
    rcases List.mem_append.1 hn with hn | hn
    · rcases List.mem_append.1 hn with hn | hn
      · exact h1 n hn
      · exact ho n hn
    · exact hb b (by simp) n hn
theorem built_plain {letters : Int} {bs : List (List Int)} {x : List Int} (h6 : letters ≤ 6) (hxl : x.length ≤ 2048) (hg : goodBlocks letters bs) (h : Glued letters bs.reverse x) : patMatch (bs.map strOfNums) (strOfNums x) = true := by
  have hok : ∀ n ∈ x, okNum letters n := glued_ok _ _ h fun b hb => by
    rw [List.mem_reverse] at hb
    obtain ⟨i, hi, rfl⟩ := List.getElem_of_mem hb
    exact (hg.2.2 i hi).2.1
  unfold patMatch
  rw [decide_eq_true (patValidate_of hg h6), wordValid_of hok h6 hxl, Bool.true_and, Bool.true_and, strOfNums_byt, plainMatch_iff]
  have e : (bs.map strOfNums).map (fun b => b.data.toList) = bs.map byt := by
    rw [List.map_map]; exact List.map_congr_left fun b _ => strOfNums_byt b
  rw [e]
  have hne : bs.reverse ≠ [] := by simpa using hg.2.1
  match hL : bs.reverse, h, hne with
  | [b], h, _ =>
    have hb : bs = [b] := by have := congrArg List.reverse hL; simpa using this
    have h' : x = b := h
    rw [hb, h']; rfl
  | b :: c :: rest, ⟨y, v, hx, _, _, hy⟩, _ =>
    obtain ⟨b0, us, r, h1, h2, h3⟩ := glued_pre (c :: rest) y hy (by simp)
    have hb : bs.map byt = b0 :: (us ++ [byt b]) := by
      have := congrArg List.reverse hL
      rw [List.reverse_reverse] at this
      rw [this, List.reverse_cons, List.map_append, h1]; rfl
    rw [hb, patFits_snoc]
    exact ⟨r ++ byt v ++ byt b, by rw [hx, byt_append, byt_append, h2]; simp only [List.append_assoc], h3.fit _ _⟩
set_option maxRecDepth 100000 in
set_option maxHeartbeats 1000000 in
theorem built_walk (w : World) (v0 v1 : Value) (z0 z1 : List Int) (h0 : Row w.heap.size w v0 (z0.map (Value.int .i64))) (h1 : Row w.heap.size w v1 (z1.map (Value.int .i64))) (hL : SomeLen w) :
    Calls Try.prog 4 #[v0, v1] w fun e w' => e = .returned (.bool true) ∧ w.grownBy w' none := by
  go_enter Try.func4, Try.ntmps4
  go_wp2_with fail
  refine (new_any w.heap.size w v0 z0 h0 (Nat.le_refl _)).mono ?_
  rintro e w1 ⟨rfl, hT1, hg1⟩
  have hs1 := hT1.lt
  go_wp2_with fail
  refine (next_any w.heap.size w.heap.size w1 3 (by omega) hT1).mono ?_
  rintro e w2 ⟨r, rfl, hr0, hr3, hT2, hg2⟩
  replace hr3 := hr3 (by omega)
  have gw2 : w.grownBy w2 none := grown_far hg1 hg2 (by simp)
  go_wp2_with fail
  refine (pattern_any w.heap.size w.heap.size w2 (1 + r) (by omega) (by omega) hT2).mono ?_
  rintro e w3 ⟨pv, bs, rfl, hrow, hgood, hT3, hg3⟩
  have gw3 : w.grownBy w3 none := grown_far gw2 hg3 (by simp)
  obtain ⟨b, off, cap, rfl, hc1, hc2, hra⟩ := hrow.found (by have := hgood.2.1; simp [strs]; exact List.length_pos_iff.2 this)
  rw [strs_length] at *
  clear hT1 hg1 hT2 hg2 hT3 hg3
  go_wp2_with fail
  have gA : w3.grownBy (w3.alloc (.cells #[.slice (some ⟨b, off, none⟩) bs.length cap] 36)) none := World.grownBy_alloc _ _ _
  have hs3 := gw3.size
  refine (new_any w.heap.size _ v1 z1 ((h1.kept gw3 (by simp)).kept gA (by simp)) (by rw [alloc_size]; omega)).mono ?_
  rintro e w4 ⟨rfl, hT4, hg4⟩
  rw [alloc_size] at hT4 ⊢
  have hs4 := hT4.lt
  have bp := block_kept (heap_alloc_new w3 (.cells #[.slice (some ⟨b, off, none⟩) bs.length cap] 36)) hg4 (by simp)
  have ra4 := (hra.kept gA (by simp)).kept hg4 (by simp)
  have gw4 : w.grownBy w4 none := grownBy_trans' (grownBy_trans' gw3 gA) hg4
  have hbs4 : bs.length ≤ 4 := hgood.1
  have hb3 : b < w3.heap.size := hra.1
  have BP := Lib.hid bp
  have hcp := cell_block bp 0 (by simp)
  simp only [List.getElem_toArray, List.getElem_cons_zero] at hcp
  have hcm' : cap ≤ 9223372036854775807 := by unfold maxLen at hc2; omega
  have HC2 := Lib.hid hc2
  clear hra gA hg4 bp hc2 h0 h1
  go_wp2
  have HCP := Lib.hid hcp
  clear hcp
  go_loopw [9, 10, 27] (fun x y i wr => ∃ (k : Nat) (xl yl : List Int), i = .int .i64 k ∧ k ≤ bs.length ∧ x = .string (strOfNums xl) ∧ y = .string (strOfNums yl) ∧ xl.length ≤ 8 * k ∧ yl.length ≤ 8 * k ∧
      Glued (1 + r) ((bs.take k).reverse) xl ∧ Glued (1 + r) ((bs.take k).reverse) yl ∧ TapeOk w.heap.size wr (w3.heap.size + 1) ∧ RowAt wr b off (strs bs) ∧
      wr.heap[w3.heap.size]? = some (.cells #[.slice (some ⟨b, off, none⟩) bs.length cap] 36 (0, 0)) ∧ w.grownBy wr none)
    (fun _ _ i _ => bs.length - (intOf i).toNat)
  case atStart => exact ⟨0, [], [], rfl, Nat.zero_le _, rfl, rfl, Nat.zero_le _, Nat.zero_le _, rfl, rfl, hT4, ra4, BP.out, gw4⟩
  case round =>
    clear hT4 ra4 gw4
    obtain ⟨k, xl, yl, rfl, hk, rfl, rfl, hxl, hyl, hgx, hgy, hTr, rar, bpr, gr⟩ := hrel
    have HGX := Lib.hid hgx; have HGY := Lib.hid hgy; have BPR := Lib.hid bpr
    have hcp := cell_block bpr 0 (by simp)
    simp only [List.getElem_toArray, List.getElem_cons_zero] at hcp
    clear hgx hgy bpr
    have sx : (strOfNums xl).size ≤ 40 := by rw [strOfNums_size]; omega
    have sy : (strOfNums yl).size ≤ 40 := by rw [strOfNums_size]; omega
    by_cases hlt : k < bs.length
    · have hck := rar.map k hlt
      have hkg := hgood.2.2 k hlt
      have hk1 := hkg.1
      have hk2 := Lib.hid hkg.2.1
      have HK := Lib.hid hkg
      have sb : (strOfNums bs[k]).size ≤ 40 := by rw [strOfNums_size]; omega
      clear hkg
      by_cases hk0 : 0 < k
      · go_wp2_with fail
        refine (word_any w.heap.size (w3.heap.size + 1) wr (1 + r) 3 (by omega) (by omega) (by omega) (by omega) hTr).mono ?_
        rintro e w5 ⟨l1, rfl, hl1, ho1, hT5, hg5⟩
        have s1 : (strOfNums l1).size ≤ 40 := by rw [strOfNums_size]; omega
        go_wp2_with fail
        refine (word_any w.heap.size (w3.heap.size + 1) w5 (1 + r) 3 (by omega) (by omega) (by omega) (by omega) hT5).mono ?_
        rintro e w6 ⟨l2, rfl, hl2, ho2, hT6, hg6⟩
        have s2 : (strOfNums l2).size ≤ 40 := by rw [strOfNums_size]; omega
        have hg56 := grownBy_trans' hg5 hg6
        have hg7 := grown_far gr hg56 (by simp; omega)
        have ra7 := rar.kept hg56 (by simp; omega)
        have BP7 := Lib.hid (block_kept BPR.out hg56 (by simp))
        have RA7 := Lib.hid ra7
        clear rar BPR hg56 hg5 hg6 ra7
        go_wp2
        go_roundw
        case rel =>
          refine ⟨k + 1, xl ++ l1 ++ bs[k], yl ++ (l1 ++ l2) ++ bs[k], by go_num, by omega, by simp only [strOfNums_append], by simp only [strOfNums_append, ByteArray.append_assoc], by simp; omega, by simp; omega,
            glued_step hlt hk0 HGX.out ho1 (by omega), glued_step hlt hk0 HGY.out (fun n hn => (List.mem_append.1 hn).elim (ho1 n) (ho2 n)) (by simp; omega), hT6, RA7.out, BP7.out, hg7⟩
        case measure => simp [intOf]; omega
      · have K0 := Lib.hid (show k = 0 by omega)
        go_wp2
        go_roundw
        case rel =>
          refine ⟨k + 1, xl ++ bs[k], yl ++ bs[k], by go_num, by omega, by simp only [strOfNums_append], by simp only [strOfNums_append], by simp; omega, by simp; omega,
            glued_first hlt K0.out HGX.out, glued_first hlt K0.out HGY.out, hTr, rar, BPR.out, gr⟩
        case measure => simp [intOf]; omega
    · have hm : ∀ x : List Int, x.length ≤ 2048 → Glued (1 + r) ((bs.take k).reverse) x → patMatch (bs.map strOfNums) (strOfNums x) = true := by
        intro x hxl2 hx
        rw [List.take_of_length_le (by omega)] at hx
        exact built_plain (by omega) hxl2 hgood hx
      have mx := hm xl (by omega) HGX.out
      have my := hm yl (by omega) HGY.out
      clear hm
      have em : strs bs = (bs.map strOfNums).map Value.string := by simp [strs]
      have hsz : ∀ i (h : i < (bs.map strOfNums).length), (bs.map strOfNums)[i].size ≤ 140737488351232 := by
        intro i h
        rw [List.length_map] at h
        have := (hgood.2.2 i h).1
        rw [List.getElem_map, strOfNums_size]; omega
      have hLr := hL.kept gr (by simp)
      have hb' : 0 < wr.heap.size := hLr.1
      rw [em] at rar
      have m1 := match_any b off cap (bs.map strOfNums) (strOfNums xl) wr (by rw [List.length_map]; exact hc1) HC2.out rar hsz (by omega) hLr
      rw [mx, List.length_map] at m1
      have M1 := Lib.hid m1; have MY := Lib.hid my; have RA := Lib.hid rar; have LR := Lib.hid hLr; have SZ := Lib.hid hsz
      clear m1 my rar hLr em mx hsz
      go_wp2_with fail
      refine M1.out.mono ?_
      rintro e w5 ⟨rfl, hg5⟩
      have m2 := match_any b off cap (bs.map strOfNums) (strOfNums yl) w5 (by rw [List.length_map]; exact hc1) HC2.out (RA.out.kept hg5 (by simp)) SZ.out (by omega) (LR.out.kept hg5 (by simp))
      rw [MY.out, List.length_map] at m2
      have M2 := Lib.hid m2
      have hcp5 := cell_block (block_kept BPR.out hg5 (by simp)) 0 (by simp)
      simp only [List.getElem_toArray, List.getElem_cons_zero] at hcp5
      have hg6 := grownBy_trans' gr hg5
      have L5 := LR.out.kept hg5 (by simp)
      clear hg5 m2
      go_wp2_with fail
      refine M2.out.mono ?_
      rintro e w6 ⟨rfl, hg7⟩
      have hg8 := grownBy_trans' hg6 hg7
      have L6 := L5.kept hg7 (by simp)
      clear hg6 hg7
      go_wp2_with fail
      refine (known_any w6 L6).mono ?_
      rintro e w7 ⟨rfl, hg9⟩
      have hg10 := grownBy_trans' hg8 hg9
      go_wp2
      go_ret
      exact ⟨rfl, hg10⟩
end Go.Proofs.Ytgbfaggnnfoamaa
