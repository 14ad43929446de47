/- Part 39 of the proof: PatWord. -/
import Derived.Test.YtgbfaggnnfoamaaZg38
set_option linter.unusedVariables false
set_option linter.unusedSimpArgs false
namespace Go.Proofs.Ytgbfaggnnfoamaa
open Go.RowKit
def letU (c : UInt8) : Nat := c.toNat - 97
theorem letU_inj {x y : UInt8} (hx : 97 ≤ x.toNat) (hy : 97 ≤ y.toNat) (h : letU x = letU y) : x = y := by
 unfold letU at h
 exact UInt8.toNat_inj.1 (by omega)
def okU (l : List UInt8) : Prop := ∀ x ∈ l, 97 ≤ x.toNat
theorem tJ : ∀ {l m : List UInt8}, okU l → okU m → l.map letU = m.map letU → l = m
 | [], [], _, _, _ => rfl
 | [], y :: m, _, _, h => by simp at h
 | x :: l, [], _, _, h => by simp at h
 | x :: l, y :: m, hl, hm, h => by
  simp only [List.map_cons, List.cons.injEq] at h
  rw [letU_inj (hl x (by simp)) (hm y (by simp)) h.1, tJ (fun z hz => hl z (List.mem_cons_of_mem _ hz)) (fun z hz => hm z (List.mem_cons_of_mem _ hz)) h.2]
def TlU : List (List UInt8) → List UInt8 → Prop
 | [], r => r = []
 | u :: us, r => ∃ p r', r = p ++ u ++ r' ∧ TlU us r'
theorem mN : ∀ (us : List (List UInt8)) (v r : List UInt8), Fit us v r ↔ TlU (us ++ [v]) r
 | [], v, r => ⟨fun ⟨q, h⟩ => ⟨q, [], by simp [h], rfl⟩, fun ⟨p, r', h, h'⟩ => ⟨p, by rw [h, show r' = [] from h']; simp⟩⟩
 | u :: us, v, r => by
  constructor
  ·rintro ⟨p, r', h, hf⟩; exact ⟨p, r', h, (mN us v r').1 hf⟩
  ·rintro ⟨p, r', h, hf⟩; exact ⟨p, r', h, (mN us v r').2 hf⟩
theorem nW : ∀ {us : List (List UInt8)} {r : List UInt8}, (∀ u ∈ us, okU u) → okU r → (TlU us r ↔ TlN (us.map (List.map letU)) (r.map letU))
 | [], r, _, _ => by
  show r = [] ↔ r.map letU = []
  rw [List.map_eq_nil_iff]
 | u :: us, r, hu, hr => by
  constructor
  ·rintro ⟨p, r', rfl, h⟩
   refine ⟨p.map letU, r'.map letU, by simp, (nW (fun x hx => hu x (List.mem_cons_of_mem _ hx)) (fun x hx => hr x (List.mem_append_right _ hx))).1 h⟩
  ·rintro ⟨p, r', h, ht⟩
   obtain ⟨a, c, rfl, h1, rfl⟩ := List.map_eq_append_iff.1 h
   obtain ⟨a1, b1, rfl, rfl, h2⟩ := List.map_eq_append_iff.1 h1
   have hb : b1 = u := tJ (fun x hx => hr x (by simp [hx])) (hu u (by simp)) h2
   subst hb
   exact ⟨a1, c, rfl, (nW (fun x hx => hu x (List.mem_cons_of_mem _ hx)) (fun x hx => hr x (List.mem_append_right _ hx))).2 ht⟩
theorem pat_mapU : ∀ {bs : List (List UInt8)} {s : List UInt8}, (∀ u ∈ bs, okU u) → okU s → (qX bs s ↔ PatN (bs.map (List.map letU)) (s.map letU))
 | [], s, _, _ => Iff.rfl
 | [b], s, hb, hs => by
  show s = b ↔ ∃ r, s.map letU = b.map letU ++ r ∧ r = []
  constructor
  ·rintro rfl; exact ⟨[], by simp, rfl⟩
  ·rintro ⟨r, h, rfl⟩
   exact tJ hs (hb b (by simp)) (by simpa using h)
 | b :: c :: rest, s, hb, hs => by
  have hl : (c :: rest) = (c :: rest).dropLast ++ [(c :: rest).getLastD []] := by
   rw [List.getLastD_eq_getLast?, List.getLast?_eq_some_getLast (List.cons_ne_nil c rest)]
   exact (List.dropLast_concat_getLast (List.cons_ne_nil c rest)).symm
  have hbr : ∀ u ∈ c :: rest, okU u := fun x hx => hb x (List.mem_cons_of_mem _ hx)
  constructor
  ·rintro ⟨r, rfl, hf⟩
   refine ⟨r.map letU, by simp, ?_⟩
   have := (mN _ _ _).1 hf
   rw [← hl] at this
   exact (nW hbr (fun x hx => hs x (List.mem_append_right _ hx))).1 this
  ·rintro ⟨r, h, ht⟩
   obtain ⟨a, r', rfl, h1, rfl⟩ := List.map_eq_append_iff.1 h
   have ha : a = b := tJ (fun x hx => hs x (List.mem_append_left _ hx)) (hb b (by simp)) h1
   subst ha
   refine ⟨r', rfl, (mN _ _ _).2 ?_⟩
   rw [← hl]
   exact (nW hbr (fun x hx => hs x (List.mem_append_right _ hx))).2 ht
theorem sF {s : ByteArray} {k : Int} (h : zM s k = true) : okU s.data.toList := fun x hx => by
 simp only [zM, Bool.and_eq_true, List.all_eq_true] at h
 have := h.2 x hx
 unfold wQ at this
 rw [decide_eq_true_eq] at this
 omega
theorem tR {s : ByteArray} {k l : Int} (h : zM s k = true) (hkl : k ≤ l) (hl : l ≤ 6) : zM s l = true := by
 simp only [zM, Bool.and_eq_true, decide_eq_true_eq, List.all_eq_true] at h ⊢
 refine ⟨⟨by omega, hl, h.1.2.2⟩, fun c hc => ?_⟩
 have := h.2 c hc
 unfold wQ at this ⊢
 rw [decide_eq_true_eq] at this ⊢
 omega
theorem patValidate_mono {bs : List ByteArray} {k l : Int} (h : zN bs k = 0) (hkl : k ≤ l) (hl : l ≤ 6) : zN bs l = 0 := by
 obtain ⟨h1, h2, h3, h4, h5, h6⟩ := xD h
 rw [xK (by omega) (by omega) (by omega) (by omega) (by omega), if_pos]
 refine tF _ _ fun j hj => ?_
 have := vW h6 j hj
 unfold xF at this ⊢
 rw [Bool.and_eq_true] at this ⊢
 exact ⟨tR this.1 hkl hl, this.2⟩
theorem match_pat {bs : List ByteArray} {s : ByteArray} {k : Nat} (h : zN bs (k : Int) = 0) (hs : zM s (k : Int) = true) : yH bs s = true ↔ PatN (bs.map zD) (zD s) := by
 obtain ⟨h1, h6, h0, h8, ht, hw, _⟩ := mT h
 rw [yH, patValidate_mono h h6 (Int.le_refl 6), tR hs h6 (Int.le_refl 6)]
 simp only [decide_true, Bool.true_and]
 rw [plainMatch_iff, pat_mapU (fun u hu => by
  obtain ⟨b, hb, rfl⟩ := List.mem_map.1 hu
  obtain ⟨i, hi, rfl⟩ := List.getElem_of_mem hb
  exact sF (hw i hi)) (sF hs), List.map_map]
 rfl
theorem pat_nonempty {bs : List ByteArray} {k : Int} (h : zN bs k = 0) : ∃ b us, bs.map zD = b :: us ∧ ∀ u ∈ us.dropLast, u ≠ [] := by
 obtain ⟨h1, h6, h0, h8, ht, hw, hne⟩ := mT h
 match bs, h0 with
 | b :: rest, _ =>
  refine ⟨zD b, rest.map zD, rfl, fun u hu => ?_⟩
  obtain ⟨i, hi, rfl⟩ := List.getElem_of_mem hu
  have hi2 : i + 1 < rest.length := by
   rw [List.length_dropLast, List.length_map] at hi; omega
  have := hne (i + 1) (by simp; omega) (by omega) (by simp; omega)
  simp only [List.getElem_cons_succ] at this
  intro e
  rw [List.getElem_dropLast, List.getElem_map] at e
  have e2 := congrArg List.length e
  rw [zT, List.length_nil] at e2
  omega
theorem patDfa_acc {bs : List ByteArray} {s : ByteArray} {k : Nat} (h : zN bs (k : Int) = 0) (hs : zM s (k : Int) = true) : acc (tT bs (k : Int)) (st0 (tT bs (k : Int))) (zD s) = yH bs s := by
 obtain ⟨h1, h6, h0, h8, ht, hw, _⟩ := mT h
 have hk1 : 1 ≤ k := by omega
 have hk6 : k ≤ 6 := by omega
 obtain ⟨b, us, hb, hne⟩ := pat_nonempty h
 have hwo := (wH hs).1
 have hvd := sW hk1 hk6 h0 ht
 rw [tT, if_pos (sN.2 h), Int.toNat_natCast]
 show acc (minD (patD k (bs.map zD)) k) 0 (zD s) = _
 rw [min_acc hvd hwo]
 rw [Bool.eq_iff_iff, match_pat h hs, hb]
 exact pat_acc hne hwo
theorem patDfa_vd {bs : List ByteArray} {k : Nat} (h : zN bs (k : Int) = 0) : ∃ n, n ≤ 66 ∧ VD (tT bs (k : Int)) n k := by
 obtain ⟨h1, h6, h0, h8, ht, hw, _⟩ := mT h
 have hvd := sW (k := k) (by omega) (by omega) h0 ht
 have hl := uW (k := k) h0 ht
 rw [tT, if_pos (sN.2 h), Int.toNat_natCast]
 exact ⟨_, Nat.le_trans (minN_le hvd) hl.2, qQ hvd⟩
theorem okByte_ofL {letters n : Int} (h : tP letters n) (h6 : letters ≤ 6) : wQ letters (UInt8.ofNat n.toNat) = true := by
 unfold tP at h
 have : (UInt8.ofNat n.toNat).toNat = n.toNat := by
  rw [UInt8.toNat_ofNat']
  exact Nat.mod_eq_of_lt (by omega)
 simp only [wQ, this, decide_eq_true_eq]
 omega
theorem sG {letters : Int} {l : List Int} (h : ∀ n ∈ l, tP letters n) (h1 : 1 ≤ letters) (h6 : letters ≤ 6) (hl : l.length ≤ 2048) : zM (strOfNums l) letters = true := by
 unfold zM
 rw [Bool.and_eq_true, decide_eq_true_eq, uA, List.all_eq_true]
 refine ⟨⟨h1, h6, by rw [strOfNums_size]; exact hl⟩, fun c hc => ?_⟩
 obtain ⟨n, hn, rfl⟩ := List.mem_map.1 hc
 exact okByte_ofL (h n hn) h6
theorem patValidate_ofL {letters : Int} {bs : List (List Int)} (h : tK letters bs) (h1 : 1 ≤ letters) (h6 : letters ≤ 6) : zN (bs.map strOfNums) letters = 0 := by
 have h0 := patValidate_of h h6
 obtain ⟨_, _, h3, h4, h5, h7⟩ := xD h0
 rw [xK (by omega) (by omega) (by omega) (by omega) (by omega), if_pos]
 refine tF _ _ fun j hj => ?_
 have := vW h7 j hj
 unfold xF at this ⊢
 rw [Bool.and_eq_true] at this ⊢
 refine ⟨?_, this.2⟩
 rw [Nat.zero_add] at *
 have hj2 : j < bs.length := by simpa using hj
 have hg := h.2.2 j hj2
 simp only [List.getElem_map]
 exact sG hg.2.1 h1 h6 (by have := hg.1; omega)
end Go.Proofs.Ytgbfaggnnfoamaa
