/- Part 34 of the proof: Fits, PatWord, RVal33. -/
import Derived.Test.YtgbfaggnnfoamaaZi33
set_option linter.unusedVariables false
set_option linter.unusedSimpArgs false
namespace Go.Proofs.Ytgbfaggnnfoamaa
open Go.RowKit
def Fit : List (List UInt8) → List UInt8 → List UInt8 → Prop
 | [], v, r => ∃ q, r = q ++ v
 | u :: us, v, r => ∃ p r', r = p ++ u ++ r' ∧ Fit us v r'
theorem Fit.more : ∀ {us : List (List UInt8)} {v r : List UInt8} (p : List UInt8), Fit us v r → Fit us v (p ++ r)
 | [], v, r, p, ⟨q, h⟩ => ⟨p ++ q, by rw [h, List.append_assoc]⟩
 | u :: us, v, r, p, ⟨q, r', h, hf⟩ => ⟨p ++ q, r', by rw [h]; simp only [List.append_assoc], hf⟩
theorem nS {r u p q : List UInt8} (h : r = p ++ u ++ q) : Lib.occAt r u p.length = true := by
 subst h
 unfold Lib.occAt
 rw [List.append_assoc, List.drop_left, List.isPrefixOf_iff_prefix]
 exact List.prefix_append _ _
theorem occAt_to {r u : List UInt8} {i : Nat} (h : Lib.occAt r u i = true) (hi : i ≤ r.length) : r = r.take i ++ u ++ r.drop (i + u.length) := by
 unfold Lib.occAt at h
 rw [List.isPrefixOf_iff_prefix] at h
 obtain ⟨t, ht⟩ := h
 have h1 : r = r.take i ++ (u ++ t) := by rw [ht, List.take_append_drop]
 have h2 : r.drop (i + u.length) = t := by rw [← List.drop_drop, ← ht, List.drop_left]
 rw [h2, List.append_assoc]
 exact h1
theorem fit_cut (us : List (List UInt8)) (u v r : List UInt8) : Fit (u :: us) v r ↔ (Lib.cut r u).2.2 = true ∧ Fit us v (Lib.cut r u).2.1 := by
 unfold Lib.cut
 rcases Lib.index_spec r u with ⟨h, hno⟩ | ⟨i, h, hi, hocc, hno⟩
 ·rw [if_neg (by omega)]
  constructor
  ·rintro ⟨p, r', hr, _⟩
   have := hno p.length (by rw [hr]; simp)
   rw [nS hr] at this
   cases this
  ·rintro ⟨h, _⟩; cases h
 ·rw [if_pos (by omega), h]
  simp only [Int.toNat_natCast, true_and]
  constructor
  ·rintro ⟨p, r', hr, hf⟩
   have hip : i ≤ p.length := by
    rcases Nat.lt_or_ge p.length i with hlt | hge
    ·have := hno p.length hlt
     rw [nS hr] at this
     cases this
    ·exact hge
   have hd : r.drop (p.length + u.length) = r' := by
    rw [hr, ← List.length_append, List.drop_left]
   have he : r.drop (i + u.length) = (r.drop (i + u.length)).take (p.length - i) ++ r' := by
    have e : r' = (r.drop (i + u.length)).drop (p.length - i) := by rw [List.drop_drop, ← hd]; congr 1; omega
    rw [e, List.take_append_drop]
   rw [he]
   exact hf.more _
  ·intro hf
   exact ⟨_, _, occAt_to hocc hi, hf⟩
theorem nE : ∀ (us : List (List UInt8)) (r v : List UInt8), rX us r v = true ↔ Fit us v r
 | [], r, v => by
  show Lib.hasSuffix r v = true ↔ _
  unfold Lib.hasSuffix
  rw [List.isSuffixOf_iff_suffix]
  exact ⟨fun ⟨q, h⟩ => ⟨q, h.symm⟩, fun ⟨q, h⟩ => ⟨q, h.symm⟩⟩
 | u :: us, r, v => by
  rw [fit_cut]
  unfold rX vP
  by_cases h : (Lib.cut r u).2.2 = true
  ·rw [if_pos h]
   have := nE us (Lib.cut r u).2.1 v
   unfold rX at this
   rw [this]
   exact ⟨fun h' => ⟨h, h'⟩, fun h' => h'.2⟩
  ·rw [if_neg h]
   exact ⟨fun h' => (by cases h'), fun h' => absurd h'.1 h⟩
def tS : List (List UInt8) → List UInt8 → Prop
 | [], _ => False
 | [b], s => s = b
 | b :: c :: rest, s => ∃ r, s = b ++ r ∧ Fit (c :: rest).dropLast ((c :: rest).getLastD []) r
theorem plainMatch_iff : ∀ (bs : List (List UInt8)) (s : List UInt8), xD bs s = true ↔ tS bs s
 | [], s => by simp [xD, tS]
 | [b], s => by simp [xD, tS]
 | b :: c :: rest, s => by
  simp only [xD, tS, Bool.and_eq_true, nE]
  unfold Lib.hasPrefix
  rw [List.isPrefixOf_iff_prefix]
  constructor
  ·rintro ⟨⟨t, ht⟩, hf⟩
   refine ⟨t, ht.symm, ?_⟩
   rwa [← ht, List.drop_left] at hf
  ·rintro ⟨r, rfl, hf⟩
   exact ⟨List.prefix_append _ _, by rwa [List.drop_left]⟩
def byt (l : List Int) : List UInt8 := l.map fun n => UInt8.ofNat n.toNat
theorem sA (l : List Int) : (strOfNums l).data.toList = byt l := strOfNums_data l
theorem okByte_of {letters n : Int} (h : qH letters n) (h6 : letters ≤ 6) : uV 6 (UInt8.ofNat n.toNat) = true := by
 unfold qH at h
 have : (UInt8.ofNat n.toNat).toNat = n.toNat := by
  rw [UInt8.toNat_ofNat']
  exact Nat.mod_eq_of_lt (by omega)
 simp only [uV, this, decide_eq_true_eq]
 omega
theorem wordValid_of {letters : Int} {l : List Int} (h : ∀ n ∈ l, qH letters n) (h6 : letters ≤ 6) (hl : l.length ≤ 2048) : zU (strOfNums l) 6 = true := by
 unfold zU
 rw [Bool.and_eq_true, decide_eq_true_eq, sA, List.all_eq_true]
 refine ⟨⟨by omega, by omega, by rw [strOfNums_size]; exact hl⟩, fun c hc => ?_⟩
 obtain ⟨n, hn, rfl⟩ := List.mem_map.1 hc
 exact okByte_of (h n hn) h6
theorem kG {letters : Int} : ∀ {bs : List (List Int)}, (∀ b ∈ bs, b.length ≤ 2) → vF (bs.map strOfNums) ≤ 2 * bs.length
 | [], _ => by simp [vF]
 | b :: bs, h => by
  have h1 := h b (by simp)
  have h2 := kG (letters := letters) (bs := bs) fun c hc => h c (by simp [hc])
  simp only [vF, List.map_cons, List.sum_cons, List.length_cons] at *
  rw [strOfNums_size]; omega
theorem oO {n : Nat} {letters : Int} : ∀ (bs : List ByteArray) (i : Nat), (∀ j (h : j < bs.length), wP n letters (i + j) bs[j] = true) → xF n letters i bs = true
 | [], _, _ => rfl
 | b :: bs, i, h => by
  have h1 := h 0 (by simp)
  have h2 := oO bs (i + 1) fun j hj => by
   have := h (j + 1) (by simpa using hj)
   rwa [show i + 1 + j = i + (j + 1) by omega]
  simp only [xF]
  rw [h2, Bool.and_true]
  simpa using h1
theorem patValidate_of {letters : Int} {bs : List (List Int)} (h : rZ letters bs) (h6 : letters ≤ 6) : zT (bs.map strOfNums) 6 = 0 := by
 have hl := h.1
 have hne : bs.length ≠ 0 := fun e => h.2.1 (List.eq_nil_of_length_eq_zero e)
 have ht := kG (letters := letters) (bs := bs) fun b hb => by
  obtain ⟨i, hi, rfl⟩ := List.getElem_of_mem hb
  exact (h.2.2 i hi).1
 have hk : xF (bs.map strOfNums).length 6 0 (bs.map strOfNums) = true := by
  refine oO _ _ fun j hj => ?_
  rw [List.length_map] at hj
  have hg := h.2.2 j hj
  have e1 : (bs.map strOfNums).length = bs.length := List.length_map _
  simp only [List.getElem_map, e1, Nat.zero_add]
  unfold wP
  rw [wordValid_of hg.2.1 h6 (by have := hg.1; omega), Bool.true_and, ByteArray.toList_eq, sA]
  by_cases hin : 0 < j ∧ j + 1 < bs.length
  ·have := hg.2.2 (by simpa using hin)
   cases hb : bs[j] with
   | nil => exact absurd hb this
   | cons c r => simp [byt]
  ·rw [decide_eq_false hin]; rfl
 unfold zT
 rw [List.length_map]
 rw [if_neg (by omega), if_neg (by omega), if_neg (by omega), if_neg hne]
 rw [List.length_map] at hk
 rw [hk]; rfl
theorem pat_nonempty {bs : List ByteArray} {k : Int} (h : zT bs k = 0) : ∃ b us, bs.map zH = b :: us ∧ ∀ u ∈ us.dropLast, u ≠ [] := by
 obtain ⟨h1, h6, h0, h8, ht, hw, hne⟩ := jL h
 match bs, h0 with
 | b :: rest, _ =>
  refine ⟨zH b, rest.map zH, rfl, fun u hu => ?_⟩
  obtain ⟨i, hi, rfl⟩ := List.getElem_of_mem hu
  have hi2 : i + 1 < rest.length := by
   rw [List.length_dropLast, List.length_map] at hi; omega
  have := hne (i + 1) (by simp; omega) (by omega) (by simp; omega)
  simp only [List.getElem_cons_succ] at this
  intro e
  rw [List.getElem_dropLast, List.getElem_map] at e
  have e2 := congrArg List.length e
  rw [yH, List.length_nil] at e2
  omega
theorem jM {bs : List ByteArray} {k : Nat} (h : zT bs (k : Int) = 0) : ∃ n, n ≤ 66 ∧ VD (uJ bs (k : Int)) n k := by
 obtain ⟨h1, h6, h0, h8, ht, hw, _⟩ := jL h
 have hvd := oL (k := k) (by omega) (by omega) h0 ht
 have hl := rB (k := k) h0 ht
 rw [uJ, if_pos (vZ.2 h), Int.toNat_natCast]
 exact ⟨_, Nat.le_trans (minN_le hvd) hl.2, mQ hvd⟩
theorem okByte_ofL {letters n : Int} (h : qH letters n) (h6 : letters ≤ 6) : uV letters (UInt8.ofNat n.toNat) = true := by
 unfold qH at h
 have : (UInt8.ofNat n.toNat).toNat = n.toNat := by
  rw [UInt8.toNat_ofNat']
  exact Nat.mod_eq_of_lt (by omega)
 simp only [uV, this, decide_eq_true_eq]
 omega
theorem wordValid_ofL {letters : Int} {l : List Int} (h : ∀ n ∈ l, qH letters n) (h1 : 1 ≤ letters) (h6 : letters ≤ 6) (hl : l.length ≤ 2048) : zU (strOfNums l) letters = true := by
 unfold zU
 rw [Bool.and_eq_true, decide_eq_true_eq, sA, List.all_eq_true]
 refine ⟨⟨h1, h6, by rw [strOfNums_size]; exact hl⟩, fun c hc => ?_⟩
 obtain ⟨n, hn, rfl⟩ := List.mem_map.1 hc
 exact okByte_ofL (h n hn) h6
theorem patValidate_ofL {letters : Int} {bs : List (List Int)} (h : rZ letters bs) (h1 : 1 ≤ letters) (h6 : letters ≤ 6) : zT (bs.map strOfNums) letters = 0 := by
 have h0 := patValidate_of h h6
 obtain ⟨_, _, h3, h4, h5, h7⟩ := wJ h0
 rw [vW (by omega) (by omega) (by omega) (by omega) (by omega), if_pos]
 refine oO _ _ fun j hj => ?_
 have := rU h7 j hj
 unfold wP at this ⊢
 rw [Bool.and_eq_true] at this ⊢
 refine ⟨?_, this.2⟩
 rw [Nat.zero_add] at *
 have hj2 : j < bs.length := by simpa using hj
 have hg := h.2.2 j hj2
 simp only [List.getElem_map]
 exact wordValid_ofL hg.2.1 h1 h6 (by have := hg.1; omega)
set_option maxRecDepth 100000 in
set_option maxHeartbeats 400000 in
theorem mF (B : Nat) (w : World) (v : Value) (bs : List ByteArray) (letters : Int) (h : Row B w v (txtV bs)) (hs : ∀ i (hi : i < bs.length), bs[i].size ≤ maxLen) :
    Calls Try.prog 21 #[.agg #[v], .int .i64 letters] w fun e w' => e = .returned (.int .i64 (patW bs letters)) ∧ w.grownBy w' none := by
  have hlm := h.len_le
  rw [zR] at hlm
  have hlm' : bs.length ≤ 9223372036854775807 := by unfold maxLen at hlm; omega
  have H := Kh h; have HS := Kh hs
  obtain ⟨a, cap, rfl⟩ := h.shape
  rw [zR] at H ⊢
  clear h hs hlm
  by_cases h1 : letters < 1 ∨ 6 < letters
  · have e1 : decide (1 ≤ letters ∧ letters ≤ 6) = false := by rw [decide_eq_false_iff_not]; omega
    have H1 := Kh h1
    clear h1
    go_enter Try.func21, Try.ntmps21
    go_wp2_with fail
    refine (wZ _ letters).mono ?_
    rintro e w' ⟨rfl, rfl⟩
    rw [e1]
    go_wp2
    go_ret
    exact ⟨yL (by rw [patW, if_pos H1.out]), World.grownBy_alloc _ _ _⟩
  have e1 : decide (1 ≤ letters ∧ letters ≤ 6) = true := by rw [decide_eq_true_eq]; omega
  go_enter Try.func21, Try.ntmps21
  go_wp2_with fail
  refine (wZ _ letters).mono ?_
  rintro e w' ⟨rfl, rfl⟩
  rw [e1]
  go_wp2
  go_loopg [5, 7, 16] bs.length (fun gh t a7 i wr => w.alloc (.cells #[.slice a bs.length cap] 36) = wr ∧ ∃ k : Nat, gh + k = bs.length ∧ i = .int .i64 k ∧ t = .int .i64 (totW (bs.take k)))
  case atStart => exact ⟨rfl, 0, rfl, rfl, rfl⟩
  case round =>
    obtain ⟨hw, k, hgh, rfl, rfl⟩ := hrel
    have HGH := Kh hgh
    clear hgh
    by_cases hlt : k < bs.length
    · have hlt' : (k : Int) < bs.length := by omega
      obtain ⟨kb, off, kc, e, _, hk1, hk2, hkr⟩ := (H.out.kept (World.grownBy_alloc w (.cells #[.slice a bs.length cap] 36) none) (by simp)).some_ (by rw [zR]; omega)
      rw [hw] at hkr
      rw [zR] at e hk1
      simp only [Value.slice.injEq] at e
      obtain ⟨rfl, _, rfl⟩ := e
      have hc := xT hkr k hlt
      have HS2 := Kh (nZ bs k hlt)
      obtain ⟨u, hu⟩ : ∃ u, u = bs.getD k ⟨#[]⟩ := ⟨_, rfl⟩
      have hus : u.size ≤ 9223372036854775807 := by
        rw [hu, zI hlt]; have := HS.out k hlt; unfold maxLen at this; omega
      rw [← hu] at hc HS2
      have HW := Kh hw
      clear hkr hu hw
      go_wp2
      go_roundg (bs.length - (k + 1))
      case measure => have := HGH.out; omega
      case rel => exact ⟨HW.out, k + 1, by have := HGH.out; omega, by go_num, by rw [HS2.out]⟩
    · have hkn : k = bs.length := by have := HGH.out; omega
      have HT : Hid (totW (bs.take k) = totW bs) := Kh (by rw [hkn, List.take_length])
      rw [HT.out]
      have hkn' : ¬ (k : Int) < bs.length := by omega
      have HG : Hid (w.grownBy wr none) := Kh (by rw [← hw]; exact World.grownBy_alloc _ _ _)
      have hb := heap_alloc_new w (.cells #[.slice a bs.length cap] 36)
      rw [hw] at hb
      have c0 : wr.cell? ⟨w.heap.size, 0, none⟩ = some (.slice a bs.length cap) := by simpa using zK hb 0 (by simp)
      have HR : Hid (Row B wr (.slice a bs.length cap) (txtV bs)) := Kh (H.out.kept HG.out (by simp))
      clear hkn hw hb HGH
      obtain ⟨tw, htw⟩ : ∃ tw, tw = totW bs := ⟨_, rfl⟩
      rw [← htw]
      have HTW := Kh htw
      clear htw
      by_cases h3 : 8 < bs.length
      · have h3' : (8 : Int) < bs.length := by omega
        go_wp2
        go_ret
        exact ⟨yL (by rw [patW, if_neg (by omega), if_pos h3]), HG.out⟩
      have h3' : ¬ (8 : Int) < bs.length := by omega
      by_cases h4 : 64 < tw
      · go_wp2
        go_ret
        exact ⟨yL (by rw [patW, if_neg (by omega), if_neg (by omega), if_pos (by rw [← HTW.out]; exact h4)]), HG.out⟩
      by_cases h5 : bs.length = 0
      · have h5' : ((bs.length : Int) == 0) = true := by simp [h5]
        have H5 := Kh h5; clear h5
        go_wp2
        go_ret
        exact ⟨yL (by rw [patW, if_neg (by omega), if_neg (by omega), if_neg (by rw [← HTW.out]; omega), if_pos H5.out]), HG.out⟩
      have h5' : ((bs.length : Int) == 0) = false := by rw [beq_eq_false_iff_ne]; omega
      go_wp2
      go_loopg [8, 9, 40] bs.length (fun gh a8 a9 i wq => wr = wq ∧ ∃ k : Nat, gh + k = bs.length ∧ i = .int .i64 k ∧ xF bs.length letters k (bs.drop k) = xF bs.length letters 0 bs)
      case atStart => exact ⟨rfl, 0, rfl, rfl, rfl⟩
      case round =>
        obtain ⟨rfl, j, hgh, rfl, hok⟩ := hrel
        have HGH := Kh hgh; have HOK := Kh hok
        clear hgh hok
        by_cases hj : j < bs.length
        · have hj' : (j : Int) < bs.length := by omega
          obtain ⟨kb, off, kc, e, _, hk1, hk2, hkr⟩ := HR.out.some_ (by rw [zR]; omega)
          rw [zR] at e hk1
          simp only [Value.slice.injEq] at e
          obtain ⟨rfl, _, rfl⟩ := e
          have hc := xT hkr j hj
          obtain ⟨u, hu⟩ : ∃ u, u = bs.getD j ⟨#[]⟩ := ⟨_, rfl⟩
          have hus : u.size ≤ maxLen := by rw [hu, zI hj]; exact HS.out j hj
          rw [← hu] at hc
          have HU : Hid (u = bs[j]) := Kh (by rw [hu, zI hj])
          clear hkr hu
          go_wp2_with (go_at_call 40; refine (nX u letters _ hus).mono ?_; rintro e w' ⟨rfl, rfl⟩)
          all_goals first
            | (go_ret
               exact ⟨yL (by rw [mK (by omega) (by omega) (by rw [← HTW.out]; omega) (by omega), oM hj (by rw [← HU.out]; first | exact qY (by assumption) (by assumption) (List.isEmpty_iff.2 (by assumption)) | exact qZ (by assumption)) HOK.out]; rfl), HG.out⟩)
            | (go_roundg (bs.length - (j + 1))
               case rel => exact ⟨rfl, j + 1, by have := HGH.out; omega, by go_num, qW hj (qX (by rw [← HU.out]; assumption) (by rw [← HU.out]; first | (left; omega) | (right; exact Bool.eq_false_iff.2 (fun e => absurd (List.isEmpty_iff.1 e) (by assumption))))) HOK.out⟩
               case measure => have := HGH.out; omega)
        · have hj' : ¬ (j : Int) < bs.length := by omega
          have e : xF bs.length letters j (bs.drop j) = true := by rw [List.drop_eq_nil_of_le (by omega)]; rfl
          have HE := Kh e
          clear e
          go_wp2
          go_ret
          exact ⟨yL (by rw [mK (by omega) (by omega) (by rw [← HTW.out]; omega) (by omega), ← HOK.out, HE.out]; rfl), HG.out⟩
end Go.Proofs.Ytgbfaggnnfoamaa
