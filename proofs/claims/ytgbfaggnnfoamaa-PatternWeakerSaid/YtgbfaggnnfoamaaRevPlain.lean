/- Plain: a word fits a pattern exactly if the reversed word fits the reversed pattern. -/
import Derived.Test.YtgbfaggnnfoamaaFits
namespace Go.Proofs.Ytgbfaggnnfoamaa
open Go.RowKit

/-- The blocks occur in m, in order. -/
def Sub : List (List UInt8) → List UInt8 → Prop
  | [], _ => True
  | u :: us, m => ∃ p m', m = p ++ u ++ m' ∧ Sub us m'
theorem fit_sub : ∀ (us : List (List UInt8)) (v r : List UInt8), Fit us v r ↔ ∃ m, r = m ++ v ∧ Sub us m
  | [], v, r => ⟨fun ⟨q, h⟩ => ⟨q, h, trivial⟩, fun ⟨m, h, _⟩ => ⟨m, h⟩⟩
  | u :: us, v, r => by
    constructor
    · rintro ⟨p, r', h, hf⟩
      obtain ⟨m, hm, hs⟩ := (fit_sub us v r').1 hf
      exact ⟨p ++ u ++ m, by rw [h, hm]; simp only [List.append_assoc], p, m, rfl, hs⟩
    · rintro ⟨m, h, p, m', hm, hs⟩
      exact ⟨p, m' ++ v, by rw [h, hm]; simp only [List.append_assoc], (fit_sub us v _).2 ⟨m', rfl, hs⟩⟩
theorem sub_snoc (u : List UInt8) : ∀ (us : List (List UInt8)) (m : List UInt8), Sub (us ++ [u]) m ↔ ∃ m' q, m = m' ++ u ++ q ∧ Sub us m'
  | [], m => ⟨fun ⟨p, m', h, _⟩ => ⟨p, m', h, trivial⟩, fun ⟨m', q, h, _⟩ => ⟨m', q, h, trivial⟩⟩
  | x :: us, m => by
    constructor
    · rintro ⟨p, m1, h, hs⟩
      obtain ⟨m', q, h1, h2⟩ := (sub_snoc u us m1).1 hs
      exact ⟨p ++ x ++ m', q, by rw [h, h1]; simp only [List.append_assoc], p, m', rfl, h2⟩
    · rintro ⟨m', q, h, p, m1, h1, h2⟩
      exact ⟨p, m1 ++ u ++ q, by rw [h, h1]; simp only [List.append_assoc], (sub_snoc u us _).2 ⟨m1, q, rfl, h2⟩⟩
theorem sub_rev : ∀ (us : List (List UInt8)) (m : List UInt8), Sub (us.reverse.map List.reverse) m.reverse ↔ Sub us m
  | [], m => Iff.rfl
  | u :: us, m => by
    rw [List.reverse_cons, List.map_append]
    show Sub (us.reverse.map List.reverse ++ [u.reverse]) m.reverse ↔ _
    rw [sub_snoc]
    constructor
    · rintro ⟨m', q, h, hs⟩
      refine ⟨q.reverse, m'.reverse, ?_, ?_⟩
      · have := congrArg List.reverse h
        simpa using this
      · rw [← sub_rev us, List.reverse_reverse]; exact hs
    · rintro ⟨p, m', h, hs⟩
      exact ⟨m'.reverse, p.reverse, by rw [h]; simp, (sub_rev us m').2 hs⟩
theorem patFits_sub (b0 : List UInt8) (us : List (List UInt8)) (b s : List UInt8) : PatFits (b0 :: (us ++ [b])) s ↔ ∃ m, s = b0 ++ m ++ b ∧ Sub us m := by
  rw [patFits_snoc]
  constructor
  · rintro ⟨r, h, hf⟩
    obtain ⟨m, hm, hs⟩ := (fit_sub _ _ _).1 hf
    exact ⟨m, by rw [h, hm, List.append_assoc], hs⟩
  · rintro ⟨m, h, hs⟩
    exact ⟨m ++ b, by rw [h, List.append_assoc], (fit_sub _ _ _).2 ⟨m, rfl, hs⟩⟩
theorem snoc_of {α : Type} (c : α) (rest : List α) : ∃ us b, c :: rest = us ++ [b] := ⟨(c :: rest).dropLast, (c :: rest).getLast (by simp), (List.dropLast_concat_getLast (by simp)).symm⟩
theorem patFits_rev (bs : List (List UInt8)) (s : List UInt8) : PatFits (bs.reverse.map List.reverse) s.reverse ↔ PatFits bs s := by
  match bs with
  | [] => exact Iff.rfl
  | [b] =>
    show s.reverse = b.reverse ↔ s = b
    exact List.reverse_inj
  | b0 :: c :: rest =>
    obtain ⟨us, b, h⟩ := snoc_of c rest
    rw [h]
    have e : (b0 :: (us ++ [b])).reverse.map List.reverse = b.reverse :: (us.reverse.map List.reverse ++ [b0.reverse]) := by simp
    rw [e, patFits_sub, patFits_sub]
    constructor
    · rintro ⟨m, hm, hs⟩
      refine ⟨m.reverse, ?_, ?_⟩
      · have := congrArg List.reverse hm
        simpa using this
      · rw [← sub_rev, List.reverse_reverse]; exact hs
    · rintro ⟨m, hm, hs⟩
      exact ⟨m.reverse, by rw [hm]; simp, (sub_rev _ _).2 hs⟩
theorem byt_reverse (l : List Int) : byt l.reverse = (byt l).reverse := by simp [byt]
theorem goodBlocks_rev {letters : Int} {bs : List (List Int)} (h : goodBlocks letters bs) : goodBlocks letters (bs.reverse.map List.reverse) := by
  refine ⟨by simpa using h.1, by simpa using h.2.1, fun i hi => ?_⟩
  have hi' : i < bs.length := by simpa using hi
  have := h.2.2 (bs.length - 1 - i) (by omega)
  rw [List.getElem_map, List.getElem_reverse]
  refine ⟨by rw [List.length_reverse]; exact this.1, fun n hn => this.2.1 n (by simpa using hn), fun hin => ?_⟩
  have h3 := this.2.2 (by simp at hin ⊢; omega)
  simpa using h3
theorem reversed_plain {letters : Int} {bs : List (List Int)} {l : List Int} (h6 : letters ≤ 6) (hg : goodBlocks letters bs) (hok : ∀ n ∈ l, okNum letters n) (hl : l.length ≤ 2048) :
    patMatch ((bs.reverse.map List.reverse).map strOfNums) (strOfNums l.reverse) = patMatch (bs.map strOfNums) (strOfNums l) := by
  unfold patMatch
  rw [decide_eq_true (patValidate_of hg h6), decide_eq_true (patValidate_of (goodBlocks_rev hg) h6), wordValid_of hok h6 hl, wordValid_of (fun n hn => hok n (by simpa using hn)) h6 (by simpa using hl),
    Bool.true_and, Bool.true_and, Bool.true_and, Bool.true_and, Bool.eq_iff_iff, plainMatch_iff, plainMatch_iff, strOfNums_byt, strOfNums_byt, byt_reverse]
  have e : ∀ cs : List (List Int), (cs.map strOfNums).map (fun b => b.data.toList) = cs.map byt := fun cs => by
    rw [List.map_map]; exact List.map_congr_left fun b _ => strOfNums_byt b
  rw [e, e]
  have e2 : (bs.reverse.map List.reverse).map byt = (bs.map byt).reverse.map List.reverse := by
    rw [← List.map_reverse, List.map_map, List.map_map]
    exact List.map_congr_left fun b _ => byt_reverse b
  rw [e2, patFits_rev]
end Go.Proofs.Ytgbfaggnnfoamaa
