/- Part 7 of the proof: Fits, TabPlain, Mat. -/
import Derived.Test.YtgbfaggnnfoamaaZg6
import Derived.Deep.LoopGhost
set_option linter.unusedVariables false
set_option linter.unusedSimpArgs false
namespace Go.Proofs.Ytgbfaggnnfoamaa
open Go.RowKit
def Fit : List (List UInt8) → List UInt8 → List UInt8 → Prop
 | [], v, r => ∃ q, r = q ++ v
 | u :: us, v, r => ∃ p r', r = p ++ u ++ r' ∧ Fit us v r'
theorem Fit.more : ∀ {us : List (List UInt8)} {v r : List UInt8} (p : List UInt8), Fit us v r → Fit us v (p ++ r)
 | [], v, r, p, ⟨q, h⟩ => ⟨p ++ q, by rw [h, List.append_assoc]⟩
 | u :: us, v, r, p, ⟨q, r', h, hf⟩ => ⟨p ++ q, r', by rw [h]; simp only [List.append_assoc], hf⟩
theorem mH {r u p q : List UInt8} (h : r = p ++ u ++ q) : Lib.occAt r u p.length = true := by
 subst h
 unfold Lib.occAt
 rw [List.append_assoc, List.drop_left, List.isPrefixOf_iff_prefix]
 exact List.prefix_append _ _
theorem occAt_to {r u : List UInt8} {i : Nat} (h : Lib.occAt r u i = true) (hi : i ≤ r.length) : r = r.take i ++ u ++ r.drop (i + u.length) := by
 unfold Lib.occAt at h
 rw [List.isPrefixOf_iff_prefix] at h
 obtain ⟨t, ht⟩ := h
 have h1 : r = r.take i ++ (u ++ t) := by rw [ht, List.take_append_drop]
 have h2 : r.drop (i + u.length) = t := by rw [← List.drop_drop, ← ht, List.drop_left]
 rw [h2, List.append_assoc]
 exact h1
theorem fit_cut (us : List (List UInt8)) (u v r : List UInt8) : Fit (u :: us) v r ↔ (Lib.cut r u).2.2 = true ∧ Fit us v (Lib.cut r u).2.1 := by
 unfold Lib.cut
 rcases Lib.index_spec r u with ⟨h, hno⟩ | ⟨i, h, hi, hocc, hno⟩
 ·rw [if_neg (by omega)]
  constructor
  ·rintro ⟨p, r', hr, _⟩
   have := hno p.length (by rw [hr]; simp)
   rw [mH hr] at this
   cases this
  ·rintro ⟨h, _⟩; cases h
 ·rw [if_pos (by omega), h]
  simp only [Int.toNat_natCast, true_and]
  constructor
  ·rintro ⟨p, r', hr, hf⟩
   have hip : i ≤ p.length := by
    rcases Nat.lt_or_ge p.length i with hlt | hge
    ·have := hno p.length hlt
     rw [mH hr] at this
     cases this
    ·exact hge
   have hd : r.drop (p.length + u.length) = r' := by
    rw [hr, ← List.length_append, List.drop_left]
   have he : r.drop (i + u.length) = (r.drop (i + u.length)).take (p.length - i) ++ r' := by
    have e : r' = (r.drop (i + u.length)).drop (p.length - i) := by rw [List.drop_drop, ← hd]; congr 1; omega
    rw [e, List.take_append_drop]
   rw [he]
   exact hf.more _
  ·intro hf
   exact ⟨_, _, occAt_to hocc hi, hf⟩
theorem rI : ∀ (us : List (List UInt8)) (r v : List UInt8), tH us r v = true ↔ Fit us v r
 | [], r, v => by
  show Lib.hasSuffix r v = true ↔ _
  unfold Lib.hasSuffix
  rw [List.isSuffixOf_iff_suffix]
  exact ⟨fun ⟨q, h⟩ => ⟨q, h.symm⟩, fun ⟨q, h⟩ => ⟨q, h.symm⟩⟩
 | u :: us, r, v => by
  rw [fit_cut]
  unfold tH wO
  by_cases h : (Lib.cut r u).2.2 = true
  ·rw [if_pos h]
   have := rI us (Lib.cut r u).2.1 v
   unfold tH at this
   rw [this]
   exact ⟨fun h' => ⟨h, h'⟩, fun h' => h'.2⟩
  ·rw [if_neg h]
   exact ⟨fun h' => (by cases h'), fun h' => absurd h'.1 h⟩
def qX : List (List UInt8) → List UInt8 → Prop
 | [], _ => False
 | [b], s => s = b
 | b :: c :: rest, s => ∃ r, s = b ++ r ∧ Fit (c :: rest).dropLast ((c :: rest).getLastD []) r
theorem plainMatch_iff : ∀ (bs : List (List UInt8)) (s : List UInt8), xE bs s = true ↔ qX bs s
 | [], s => by simp [xE, qX]
 | [b], s => by simp [xE, qX]
 | b :: c :: rest, s => by
  simp only [xE, qX, Bool.and_eq_true, rI]
  unfold Lib.hasPrefix
  rw [List.isPrefixOf_iff_prefix]
  constructor
  ·rintro ⟨⟨t, ht⟩, hf⟩
   refine ⟨t, ht.symm, ?_⟩
   rwa [← ht, List.drop_left] at hf
  ·rintro ⟨r, rfl, hf⟩
   exact ⟨List.prefix_append _ _, by rwa [List.drop_left]⟩
def byt (l : List Int) : List UInt8 := l.map fun n => UInt8.ofNat n.toNat
theorem uA (l : List Int) : (strOfNums l).data.toList = byt l := strOfNums_data l
theorem okByte_of {letters n : Int} (h : tP letters n) (h6 : letters ≤ 6) : wQ 6 (UInt8.ofNat n.toNat) = true := by
 unfold tP at h
 have : (UInt8.ofNat n.toNat).toNat = n.toNat := by
  rw [UInt8.toNat_ofNat']
  exact Nat.mod_eq_of_lt (by omega)
 simp only [wQ, this, decide_eq_true_eq]
 omega
theorem wordValid_of {letters : Int} {l : List Int} (h : ∀ n ∈ l, tP letters n) (h6 : letters ≤ 6) (hl : l.length ≤ 2048) : zM (strOfNums l) 6 = true := by
 unfold zM
 rw [Bool.and_eq_true, decide_eq_true_eq, uA, List.all_eq_true]
 refine ⟨⟨by omega, by omega, by rw [strOfNums_size]; exact hl⟩, fun c hc => ?_⟩
 obtain ⟨n, hn, rfl⟩ := List.mem_map.1 hc
 exact okByte_of (h n hn) h6
theorem nU {letters : Int} : ∀ {bs : List (List Int)}, (∀ b ∈ bs, b.length ≤ 2) → wB (bs.map strOfNums) ≤ 2 * bs.length
 | [], _ => by simp [wB]
 | b :: bs, h => by
  have h1 := h b (by simp)
  have h2 := nU (letters := letters) (bs := bs) fun c hc => h c (by simp [hc])
  simp only [wB, List.map_cons, List.sum_cons, List.length_cons] at *
  rw [strOfNums_size]; omega
theorem tF {n : Nat} {letters : Int} : ∀ (bs : List ByteArray) (i : Nat), (∀ j (h : j < bs.length), xF n letters (i + j) bs[j] = true) → yP n letters i bs = true
 | [], _, _ => rfl
 | b :: bs, i, h => by
  have h1 := h 0 (by simp)
  have h2 := tF bs (i + 1) fun j hj => by
   have := h (j + 1) (by simpa using hj)
   rwa [show i + 1 + j = i + (j + 1) by omega]
  simp only [yP]
  rw [h2, Bool.and_true]
  simpa using h1
theorem patValidate_of {letters : Int} {bs : List (List Int)} (h : tK letters bs) (h6 : letters ≤ 6) : zN (bs.map strOfNums) 6 = 0 := by
 have hl := h.1
 have hne : bs.length ≠ 0 := fun e => h.2.1 (List.eq_nil_of_length_eq_zero e)
 have ht := nU (letters := letters) (bs := bs) fun b hb => by
  obtain ⟨i, hi, rfl⟩ := List.getElem_of_mem hb
  exact (h.2.2 i hi).1
 have hk : yP (bs.map strOfNums).length 6 0 (bs.map strOfNums) = true := by
  refine tF _ _ fun j hj => ?_
  rw [List.length_map] at hj
  have hg := h.2.2 j hj
  have e1 : (bs.map strOfNums).length = bs.length := List.length_map _
  simp only [List.getElem_map, e1, Nat.zero_add]
  unfold xF
  rw [wordValid_of hg.2.1 h6 (by have := hg.1; omega), Bool.true_and, ByteArray.toList_eq, uA]
  by_cases hin : 0 < j ∧ j + 1 < bs.length
  ·have := hg.2.2 (by simpa using hin)
   cases hb : bs[j] with
   | nil => exact absurd hb this
   | cons c r => simp [byt]
  ·rw [decide_eq_false hin]; rfl
 unfold zN
 rw [List.length_map]
 rw [if_neg (by omega), if_neg (by omega), if_neg (by omega), if_neg hne]
 rw [List.length_map] at hk
 rw [hk]; rfl
end Go.Proofs.Ytgbfaggnnfoamaa
namespace Go.Proofs.Ytgbfaggnnfoamaa
def ent (t : List (List Int)) (x y : Nat) : Int := (t.getD x []).getD y 0
def entN (t : List (List Int)) (x y : Nat) : Nat := (ent t x y).toNat
end Go.Proofs.Ytgbfaggnnfoamaa
namespace Go.Proofs.Ytgbfaggnnfoamaa
open Go.RowKit
def ints (zs : List Int) : List Value := zs.map (Value.int .i64)
theorem yV (zs : List Int) : (ints zs).length = zs.length := by simp [ints]
theorem Row.some_ {B : Nat} {w : World} {v : Value} {xs : List Value} (h : Row B w v xs) (hx : 0 < xs.length) :
  ∃ b off cap, v = .slice (some ⟨b, off, none⟩) xs.length cap ∧ b < B ∧ xs.length ≤ cap ∧ cap ≤ maxLen ∧ xN w b off xs := by
 rcases h with ⟨a, c, rfl, rfl⟩ | ⟨b, off, cap, rfl, h0, h1, h2, h3⟩
 ·simp at hx
 ·exact ⟨b, off, cap, rfl, h0, h1, h2, h3⟩
theorem Row.shape {B : Nat} {w : World} {v : Value} {xs : List Value} (h : Row B w v xs) : ∃ a cap, v = .slice a xs.length cap := by
 rcases h with ⟨a, c, rfl, rfl⟩ | ⟨b, off, cap, rfl, h0, h1, h2, h3⟩
 ·exact ⟨a, c, rfl⟩
 ·exact ⟨_, _, rfl⟩
theorem Row.len_le {B : Nat} {w : World} {v : Value} {xs : List Value} (h : Row B w v xs) : xs.length ≤ maxLen := by
 rcases h with ⟨a, c, rfl, rfl⟩ | ⟨b, off, cap, rfl, h0, h1, h2, h3⟩
 ·simp
 ·omega
theorem xN.int {w : World} {b off : Nat} {zs : List Int} (h : xN w b off (ints zs)) (i : Nat) (hi : i < zs.length) : w.cell? ⟨b, off + i, none⟩ = some (.int .i64 (zs.getD i 0)) := by
 rw [xN.map h i hi]
 simp [List.getD, List.getElem?_eq_getElem hi]
structure MatAt (B : Nat) (w : World) (t : List (List Int)) (b off : Nat) (A : Nat → Option Addr) (C : Nat → Nat) : Prop where
 lt : b < B
 ltw : b < w.heap.size
 hd : ∀ x, x < t.length → w.cell? ⟨b, off + x, none⟩ = some (.slice (A x) (t.getD x []).length (C x))
 row : ∀ x, x < t.length → Row B w (.slice (A x) (t.getD x []).length (C x)) (ints (t.getD x []))
def Mat (B : Nat) (w : World) (v : Value) (t : List (List Int)) : Prop :=
 (∃ a cap, v = .slice a 0 cap ∧ t = []) ∨ ∃ b off cap A C, v = .slice (some ⟨b, off, none⟩) t.length cap ∧ t.length ≤ cap ∧ cap ≤ maxLen ∧ MatAt B w t b off A C
theorem MatAt.kept {B : Nat} {w w' : World} {t : List (List Int)} {b off : Nat} {A : Nat → Option Addr} {C : Nat → Nat} {row : Option Nat} (h : MatAt B w t b off A C) (hg : w.grownBy w' row) (hr : ∀ k, row = some k → B ≤ k) : MatAt B w' t b off A C :=
 ⟨h.lt, Nat.lt_of_lt_of_le h.ltw hg.size, fun x hx => (World.cell?_of_block (hg.block b h.ltw (fun e => by have := hr b e.symm; have := h.lt; omega))).trans (h.hd x hx), fun x hx => (h.row x hx).kept hg hr⟩
theorem MatAt.mono {B B' : Nat} {w : World} {t : List (List Int)} {b off : Nat} {A : Nat → Option Addr} {C : Nat → Nat} (h : MatAt B w t b off A C) (hB : B ≤ B') : MatAt B' w t b off A C :=
 ⟨Nat.lt_of_lt_of_le h.lt hB, h.ltw, h.hd, fun x hx => (h.row x hx).mono hB⟩
theorem MatAt.of_heap {B : Nat} {w w' : World} {t : List (List Int)} {b off : Nat} {A : Nat → Option Addr} {C : Nat → Nat} (h : MatAt B w t b off A C) (e : w'.heap = w.heap) : MatAt B w' t b off A C :=
 ⟨h.lt, by rw [e]; exact h.ltw, fun x hx => (World.cell?_of_block (by rw [e])).trans (h.hd x hx), fun x hx => (h.row x hx).of_heap e⟩
section
variable {B B' : Nat} {w w' : World} {v : Value} {t : List (List Int)} {row : Option Nat}
theorem Mat.kept (h : Mat B w v t) (hg : w.grownBy w' row) (hr : ∀ k, row = some k → B ≤ k) : Mat B w' v t := by
 rcases h with h | ⟨b, off, cap, A, C, h1, h2, h3, h4⟩
 ·exact .inl h
 ·exact .inr ⟨b, off, cap, A, C, h1, h2, h3, h4.kept hg hr⟩
theorem Mat.mono (h : Mat B w v t) (hB : B ≤ B') : Mat B' w v t := by
 rcases h with h | ⟨b, off, cap, A, C, h1, h2, h3, h4⟩
 ·exact .inl h
 ·exact .inr ⟨b, off, cap, A, C, h1, h2, h3, h4.mono hB⟩
theorem Mat.of_heap (h : Mat B w v t) (e : w'.heap = w.heap) : Mat B w' v t := by
 rcases h with h | ⟨b, off, cap, A, C, h1, h2, h3, h4⟩
 ·exact .inl h
 ·exact .inr ⟨b, off, cap, A, C, h1, h2, h3, h4.of_heap e⟩
theorem Mat.some_ (h : Mat B w v t) (hx : 0 < t.length) : ∃ b off cap A C, v = .slice (some ⟨b, off, none⟩) t.length cap ∧ t.length ≤ cap ∧ cap ≤ maxLen ∧ MatAt B w t b off A C := by
 rcases h with ⟨_, _, _, rfl⟩ | h
 ·simp at hx
 ·exact h
theorem Mat.shape (h : Mat B w v t) : ∃ a cap, v = .slice a t.length cap := by
 rcases h with ⟨a, c, rfl, rfl⟩ | ⟨b, off, cap, A, C, rfl, _⟩
 ·exact ⟨a, c, rfl⟩
 ·exact ⟨_, _, rfl⟩
theorem Mat.len_le (h : Mat B w v t) : t.length ≤ maxLen := by
 rcases h with ⟨a, c, rfl, rfl⟩ | ⟨b, off, cap, A, C, rfl, h1, h2, _⟩
 ·simp
 ·omega
end
def EntsOk (n : Nat) (r : List Int) (j : Nat) : Prop := ∀ y, y < j → 0 ≤ r.getD y 0 ∧ r.getD y 0 < n
end Go.Proofs.Ytgbfaggnnfoamaa
