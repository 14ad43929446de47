/- Plain: what it means that a word fits a pattern; Match decides it. -/
import Derived.Test.YtgbfaggnnfoamaaMatch
import Derived.Test.YtgbfaggnnfoamaaMadePat
namespace Go.Proofs.Ytgbfaggnnfoamaa
open Go.RowKit

/-- r is made of the inner blocks, in order, anything before each, and ends with v. -/
def Fit : List (List UInt8) → List UInt8 → List UInt8 → Prop
  | [], v, r => ∃ q, r = q ++ v
  | u :: us, v, r => ∃ p r', r = p ++ u ++ r' ∧ Fit us v r'
theorem Fit.more : ∀ {us : List (List UInt8)} {v r : List UInt8} (p : List UInt8), Fit us v r → Fit us v (p ++ r)
  | [], v, r, p, ⟨q, h⟩ => ⟨p ++ q, by rw [h, List.append_assoc]⟩
  | u :: us, v, r, p, ⟨q, r', h, hf⟩ => ⟨p ++ q, r', by rw [h]; simp only [List.append_assoc], hf⟩
theorem occAt_of {r u p q : List UInt8} (h : r = p ++ u ++ q) : Lib.occAt r u p.length = true := by
  subst h
  unfold Lib.occAt
  rw [List.append_assoc, List.drop_left, List.isPrefixOf_iff_prefix]
  exact List.prefix_append _ _
theorem occAt_to {r u : List UInt8} {i : Nat} (h : Lib.occAt r u i = true) (hi : i ≤ r.length) : r = r.take i ++ u ++ r.drop (i + u.length) := by
  unfold Lib.occAt at h
  rw [List.isPrefixOf_iff_prefix] at h
  obtain ⟨t, ht⟩ := h
  have h1 : r = r.take i ++ (u ++ t) := by rw [ht, List.take_append_drop]
  have h2 : r.drop (i + u.length) = t := by rw [← List.drop_drop, ← ht, List.drop_left]
  rw [h2, List.append_assoc]
  exact h1
theorem fit_cut (us : List (List UInt8)) (u v r : List UInt8) : Fit (u :: us) v r ↔ (Lib.cut r u).2.2 = true ∧ Fit us v (Lib.cut r u).2.1 := by
  unfold Lib.cut
  rcases Lib.index_spec r u with ⟨h, hno⟩ | ⟨i, h, hi, hocc, hno⟩
  · rw [if_neg (by omega)]
    constructor
    · rintro ⟨p, r', hr, _⟩
      have := hno p.length (by rw [hr]; simp)
      rw [occAt_of hr] at this
      cases this
    · rintro ⟨h, _⟩; cases h
  · rw [if_pos (by omega), h]
    simp only [Int.toNat_natCast, true_and]
    constructor
    · rintro ⟨p, r', hr, hf⟩
      have hip : i ≤ p.length := by
        rcases Nat.lt_or_ge p.length i with hlt | hge
        · have := hno p.length hlt
          rw [occAt_of hr] at this
          cases this
        · exact hge
      have hd : r.drop (p.length + u.length) = r' := by
        rw [hr, ← List.length_append, List.drop_left]
      have he : r.drop (i + u.length) = (r.drop (i + u.length)).take (p.length - i) ++ r' := by
        have e : r' = (r.drop (i + u.length)).drop (p.length - i) := by rw [List.drop_drop, ← hd]; congr 1; omega
        rw [e, List.take_append_drop]
      rw [he]
      exact hf.more _
    · intro hf
      exact ⟨_, _, occAt_to hocc hi, hf⟩
theorem midMatch_iff : ∀ (us : List (List UInt8)) (r v : List UInt8), midMatch us r v = true ↔ Fit us v r
  | [], r, v => by
    show Lib.hasSuffix r v = true ↔ _
    unfold Lib.hasSuffix
    rw [List.isSuffixOf_iff_suffix]
    exact ⟨fun ⟨q, h⟩ => ⟨q, h.symm⟩, fun ⟨q, h⟩ => ⟨q, h.symm⟩⟩
  | u :: us, r, v => by
    rw [fit_cut]
    unfold midMatch findAll
    by_cases h : (Lib.cut r u).2.2 = true
    · rw [if_pos h]
      have := midMatch_iff us (Lib.cut r u).2.1 v
      unfold midMatch at this
      rw [this]
      exact ⟨fun h' => ⟨h, h'⟩, fun h' => h'.2⟩
    · rw [if_neg h]
      exact ⟨fun h' => (by cases h'), fun h' => absurd h'.1 h⟩
/-- The word s fits the blocks. -/
def PatFits : List (List UInt8) → List UInt8 → Prop
  | [], _ => False
  | [b], s => s = b
  | b :: c :: rest, s => ∃ r, s = b ++ r ∧ Fit (c :: rest).dropLast ((c :: rest).getLastD []) r
theorem plainMatch_iff : ∀ (bs : List (List UInt8)) (s : List UInt8), plainMatch bs s = true ↔ PatFits bs s
  | [], s => by simp [plainMatch, PatFits]
  | [b], s => by simp [plainMatch, PatFits]
  | b :: c :: rest, s => by
    simp only [plainMatch, PatFits, Bool.and_eq_true, midMatch_iff]
    unfold Lib.hasPrefix
    rw [List.isPrefixOf_iff_prefix]
    constructor
    · rintro ⟨⟨t, ht⟩, hf⟩
      refine ⟨t, ht.symm, ?_⟩
      rwa [← ht, List.drop_left] at hf
    · rintro ⟨r, rfl, hf⟩
      exact ⟨List.prefix_append _ _, by rwa [List.drop_left]⟩

/-- The bytes of a list of numbers. -/
def byt (l : List Int) : List UInt8 := l.map fun n => UInt8.ofNat n.toNat
theorem byt_append (a b : List Int) : byt (a ++ b) = byt a ++ byt b := by simp [byt]
theorem strOfNums_byt (l : List Int) : (strOfNums l).data.toList = byt l := strOfNums_data l
theorem okByte_of {letters n : Int} (h : okNum letters n) (h6 : letters ≤ 6) : okByte 6 (UInt8.ofNat n.toNat) = true := by
  unfold okNum at h
  have : (UInt8.ofNat n.toNat).toNat = n.toNat := by
    rw [UInt8.toNat_ofNat']
    exact Nat.mod_eq_of_lt (by omega)
  simp only [okByte, this, decide_eq_true_eq]
  omega
theorem wordValid_of {letters : Int} {l : List Int} (h : ∀ n ∈ l, okNum letters n) (h6 : letters ≤ 6) (hl : l.length ≤ 2048) : wordValid (strOfNums l) 6 = true := by
  unfold wordValid
  rw [Bool.and_eq_true, decide_eq_true_eq, strOfNums_byt, List.all_eq_true]
  refine ⟨⟨by omega, by omega, by rw [strOfNums_size]; exact hl⟩, fun c hc => ?_⟩
  obtain ⟨n, hn, rfl⟩ := List.mem_map.1 hc
  exact okByte_of (h n hn) h6
theorem total_of {letters : Int} : ∀ {bs : List (List Int)}, (∀ b ∈ bs, b.length ≤ 2) → total (bs.map strOfNums) ≤ 2 * bs.length
  | [], _ => by simp [total]
  | b :: bs, h => by
    have h1 := h b (by simp)
    have h2 := total_of (letters := letters) (bs := bs) fun c hc => h c (by simp [hc])
    simp only [total, List.map_cons, List.sum_cons, List.length_cons] at *
    rw [strOfNums_size]; omega
theorem okFrom_all {n : Nat} {letters : Int} : ∀ (bs : List ByteArray) (i : Nat), (∀ j (h : j < bs.length), okBlock n letters (i + j) bs[j] = true) → okFrom n letters i bs = true
  | [], _, _ => rfl
  | b :: bs, i, h => by
    have h1 := h 0 (by simp)
    have h2 := okFrom_all bs (i + 1) fun j hj => by
      have := h (j + 1) (by simpa using hj)
      rwa [show i + 1 + j = i + (j + 1) by omega]
    simp only [okFrom]
    rw [h2, Bool.and_true]
    simpa using h1
theorem patValidate_of {letters : Int} {bs : List (List Int)} (h : goodBlocks letters bs) (h6 : letters ≤ 6) : patValidate (bs.map strOfNums) 6 = 0 := by
  have hl := h.1
  have hne : bs.length ≠ 0 := fun e => h.2.1 (List.eq_nil_of_length_eq_zero e)
  have ht := total_of (letters := letters) (bs := bs) fun b hb => by
    obtain ⟨i, hi, rfl⟩ := List.getElem_of_mem hb
    exact (h.2.2 i hi).1
  have hk : okFrom (bs.map strOfNums).length 6 0 (bs.map strOfNums) = true := by
    refine okFrom_all _ _ fun j hj => ?_
    rw [List.length_map] at hj
    have hg := h.2.2 j hj
    have e1 : (bs.map strOfNums).length = bs.length := List.length_map _
    simp only [List.getElem_map, e1, Nat.zero_add]
    unfold okBlock
    rw [wordValid_of hg.2.1 h6 (by have := hg.1; omega), Bool.true_and, ByteArray.toList_eq, strOfNums_byt]
    by_cases hin : 0 < j ∧ j + 1 < bs.length
    · have := hg.2.2 (by simpa using hin)
      cases hb : bs[j] with
      | nil => exact absurd hb this
      | cons c r => simp [byt]
    · rw [decide_eq_false hin]; rfl
  unfold patValidate
  rw [List.length_map]
  rw [if_neg (by omega), if_neg (by omega), if_neg (by omega), if_neg hne]
  rw [List.length_map] at hk
  rw [hk]; rfl

/-- r is made of the blocks, anything before each, and ends with the last one. -/
def Pre : List (List UInt8) → List UInt8 → Prop
  | [], r => r = []
  | u :: us, r => ∃ p r', r = p ++ u ++ r' ∧ Pre us r'
theorem Pre.snoc : ∀ {us : List (List UInt8)} {r : List UInt8} (v b : List UInt8), Pre us r → Pre (us ++ [b]) (r ++ v ++ b)
  | [], r, v, b, h => ⟨v, [], by have h' : r = [] := h; rw [h']; simp, rfl⟩
  | u :: us, r, v, b, ⟨p, r', h, hp⟩ => ⟨p, r' ++ v ++ b, by rw [h]; simp only [List.append_assoc], hp.snoc v b⟩
theorem Pre.fit : ∀ {us : List (List UInt8)} {r : List UInt8} (q v : List UInt8), Pre us r → Fit us v (r ++ q ++ v)
  | [], r, q, v, _ => ⟨r ++ q, rfl⟩
  | u :: us, r, q, v, ⟨p, r', h, hp⟩ => ⟨p, r' ++ q ++ v, by rw [h]; simp only [List.append_assoc], hp.fit q v⟩
theorem patFits_snoc (b0 : List UInt8) (us : List (List UInt8)) (b s : List UInt8) : PatFits (b0 :: (us ++ [b])) s ↔ ∃ r, s = b0 ++ r ∧ Fit us b r := by
  cases us with
  | nil => exact Iff.rfl
  | cons u us =>
    show (∃ r, s = b0 ++ r ∧ Fit (u :: (us ++ [b])).dropLast ((u :: (us ++ [b])).getLastD []) r) ↔ _
    have h1 : (u :: (us ++ [b])).dropLast = u :: us := by rw [← List.cons_append, List.dropLast_concat]
    have h2 : (u :: (us ++ [b])).getLastD [] = b := by rw [← List.cons_append, List.getLastD_eq_getLast?, List.getLast?_concat]; rfl
    rw [h1, h2]
end Go.Proofs.Ytgbfaggnnfoamaa
