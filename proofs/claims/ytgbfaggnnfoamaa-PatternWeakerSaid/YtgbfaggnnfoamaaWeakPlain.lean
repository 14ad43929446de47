/- Plain: a word that fits a pattern fits the pattern without one of its inner blocks. -/
import Derived.Test.YtgbfaggnnfoamaaRevPlain
namespace Go.Proofs.Ytgbfaggnnfoamaa
open Go.RowKit

theorem Sub.more : ∀ {us : List (List UInt8)} {m : List UInt8} (p : List UInt8), Sub us m → Sub us (p ++ m)
  | [], _, _, _ => trivial
  | u :: us, m, p, ⟨q, m', h, hs⟩ => ⟨p ++ q, m', by rw [h]; simp only [List.append_assoc], hs⟩
theorem Sub.drop : ∀ {us vs : List (List UInt8)} {u m : List UInt8}, Sub (us ++ u :: vs) m → Sub (us ++ vs) m
  | [], vs, u, m, ⟨p, m', h, hs⟩ => by rw [h]; exact hs.more (p ++ u)
  | x :: us, vs, u, m, ⟨p, m', h, hs⟩ => ⟨p, m', h, Sub.drop hs⟩
/-- The list without its element k. -/
def without {α : Type} (bs : List α) (k : Nat) : List α := bs.take k ++ bs.drop (k + 1)
theorem without_map {α β : Type} (f : α → β) (bs : List α) (k : Nat) : (without bs k).map f = without (bs.map f) k := by simp [without]
theorem without_length {α : Type} (bs : List α) (k : Nat) (hk : k < bs.length) : (without bs k).length = bs.length - 1 := by simp [without]; omega
theorem without_get {α : Type} (bs : List α) (k i : Nat) (hi : i < (without bs k).length) (hk : k < bs.length) : (without bs k)[i] = if h : i < k then bs[i]'(by omega) else bs[i + 1]'(by rw [without_length bs k hk] at hi; omega) := by
  have h1 : (bs.take k).length = k := by simp; omega
  by_cases h : i < k
  · rw [dif_pos h]
    simp only [without]
    rw [List.getElem_append_left (by omega)]
    simp
  · rw [dif_neg h]
    simp only [without]
    rw [List.getElem_append_right (by omega)]
    simp only [h1, List.getElem_drop]
    congr 1; omega
theorem patFits_without (bs : List (List UInt8)) (s : List UInt8) (k : Nat) (h0 : 0 < k) (hk : k + 1 < bs.length) (h : PatFits bs s) : PatFits (without bs k) s := by
  match bs, hk, h with
  | b0 :: c :: rest, hk, h =>
    obtain ⟨us, b, e⟩ := snoc_of c rest
    rw [e] at h hk ⊢
    obtain ⟨k, rfl⟩ : ∃ j, k = j + 1 := ⟨k - 1, by omega⟩
    have hku : k < us.length := by simp at hk; omega
    have e2 : without (b0 :: (us ++ [b])) (k + 1) = b0 :: ((us.take k ++ us.drop (k + 1)) ++ [b]) := by
      simp only [without, List.take_succ_cons, List.drop_succ_cons]
      rw [List.take_append_of_le_length (by omega), List.drop_append_of_le_length (by omega)]
      simp
    rw [patFits_sub] at h
    rw [e2, patFits_sub]
    obtain ⟨m, hm, hs⟩ := h
    refine ⟨m, hm, Sub.drop (u := us[k]) ?_⟩
    rw [← List.drop_eq_getElem_cons hku, List.take_append_drop]
    exact hs
theorem goodBlocks_without {letters : Int} {bs : List (List Int)} (k : Nat) (h0 : 0 < k) (hk : k + 1 < bs.length) (h : goodBlocks letters bs) : goodBlocks letters (without bs k) := by
  have hl := without_length bs k (by omega)
  refine ⟨by rw [hl]; have := h.1; omega, fun e => by rw [e] at hl; simp at hl; omega, fun i hi => ?_⟩
  have hi2 : i < bs.length - 1 := by omega
  rw [without_get bs k i hi (by omega)]
  split
  · next hik =>
    have := h.2.2 i (by omega)
    exact ⟨this.1, this.2.1, fun hin => this.2.2 (by simp at hin ⊢; omega)⟩
  · next hik =>
    have := h.2.2 (i + 1) (by omega)
    exact ⟨this.1, this.2.1, fun hin => this.2.2 (by rw [hl] at hin; simp at hin ⊢; omega)⟩
theorem weaker_plain {letters : Int} {bs : List (List Int)} {l : List Int} {k : Nat} (h6 : letters ≤ 6) (hg : goodBlocks letters bs) (hok : ∀ n ∈ l, okNum letters n) (hl : l.length ≤ 2048) (h0 : 0 < k) (hk : k + 1 < bs.length)
    (h : patMatch (bs.map strOfNums) (strOfNums l) = true) : patMatch ((without bs k).map strOfNums) (strOfNums l) = true := by
  have e : ∀ cs : List (List Int), (cs.map strOfNums).map (fun b => b.data.toList) = cs.map byt := fun cs => by
    rw [List.map_map]; exact List.map_congr_left fun b _ => strOfNums_byt b
  unfold patMatch at h ⊢
  rw [decide_eq_true (patValidate_of hg h6), wordValid_of hok h6 hl, Bool.true_and, Bool.true_and, plainMatch_iff, e] at h
  rw [decide_eq_true (patValidate_of (goodBlocks_without k h0 hk hg) h6), wordValid_of hok h6 hl, Bool.true_and, Bool.true_and, plainMatch_iff, e, without_map]
  exact patFits_without _ _ k h0 (by simpa using hk) h
end Go.Proofs.Ytgbfaggnnfoamaa
