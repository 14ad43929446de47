/- Part 35 of the proof: RMatch, RMat2. -/
import Derived.Test.YtgbfaggnnfoamaaZi34
set_option linter.unusedVariables false
set_option linter.unusedSimpArgs false
namespace Go.Proofs.Ytgbfaggnnfoamaa
open Go.RowKit
def tl (s : ByteArray) : List UInt8 := s.data.toList
theorem yR (s : ByteArray) : (tl s).length = s.size := by simp [tl]
theorem rS (s : ByteArray) (i j : Nat) : tl (s.extract i j) = ((tl s).drop i).take (j - i) := by
 unfold tl
 rw [ByteArray.data_extract, Array.toList_extract, List.extract_eq_take_drop]
theorem ext_size (s : ByteArray) {i j : Nat} (h : j ≤ s.size) : (s.extract i j).size = j - i := by
 rw [← yR, rS, List.length_take, List.length_drop, yR]; omega
theorem kB (s : ByteArray) (i j : Nat) : (s.extract i j).toList = ((tl s).drop i).take (j - i) := by
 rw [ByteArray.toList_eq]; exact rS s i j
theorem mA (s : ByteArray) : s.toList = tl s := ByteArray.toList_eq s
def NoB (r u : List UInt8) (p : Nat) : Prop := ∀ i, i < p → Lib.occAt r u i = false
theorem occ_ext {r u : ByteArray} {p : Nat} (h : p + u.size ≤ r.size) : ((r.extract p (p + u.size)).toList == u.toList) = Lib.occAt (tl r) (tl u) p := by
 rw [kB, mA, Lib.occAt, Bool.eq_iff_iff, beq_iff_eq, List.isPrefixOf_iff_prefix, List.prefix_iff_eq_take, yR, Nat.add_sub_cancel_left]
 exact eq_comm
theorem fit_occ {us : List (List UInt8)} {u v r : List UInt8} {f : Nat} (hno : NoB r u f) (hocc : Lib.occAt r u f = true) (hf : f + u.length ≤ r.length) : Fit (u :: us) v r ↔ Fit us v (r.drop (f + u.length)) := by
 constructor
 ·rintro ⟨p, r', hr, hf'⟩
  have hip : f ≤ p.length := by
   rcases Nat.lt_or_ge p.length f with hlt | hge
   ·have := hno p.length hlt
    rw [nS hr] at this
    cases this
   ·exact hge
  have hd : r.drop (p.length + u.length) = r' := by
   rw [hr, ← List.length_append, List.drop_left]
  have he : r.drop (f + u.length) = (r.drop (f + u.length)).take (p.length - f) ++ r' := by
   have e : r' = (r.drop (f + u.length)).drop (p.length - f) := by rw [List.drop_drop, ← hd]; congr 1; omega
   rw [e, List.take_append_drop]
  rw [he]
  exact hf'.more _
 ·intro h
  exact ⟨_, _, occAt_to hocc (by omega), h⟩
theorem fit_none {us : List (List UInt8)} {u v r : List UInt8} {p : Nat} (hno : NoB r u p) (hp : ¬ p + u.length ≤ r.length) : ¬ Fit (u :: us) v r := by
 rintro ⟨q, r', hr, _⟩
 have hl := congrArg List.length hr
 simp only [List.length_append] at hl
 have := hno q.length (by omega)
 rw [nS hr] at this
 cases this
def lE (bs : List ByteArray) : List UInt8 := tl (bs.getD (bs.length - 1) ⟨#[]⟩)
theorem fits_one {bs : List ByteArray} {s : List UInt8} (h : bs.length = 1) : tS (bs.map (·.data.toList)) s ↔ s = tl (bs.getD 0 ⟨#[]⟩) := by
 match bs, h with
 | [b], _ => exact Iff.rfl
theorem fits_more {bs : List ByteArray} {s : List UInt8} (h : 2 ≤ bs.length) : tS (bs.map (·.data.toList)) s ↔ ∃ r, s = tl (bs.getD 0 ⟨#[]⟩) ++ r ∧ Fit (mid bs) (lE bs) r := by
 match bs, h with
 | b :: c :: rest, _ =>
  have e : ((c :: rest).map (·.data.toList)).getLastD [] = lE (b :: c :: rest) := by
   rw [List.getLastD_eq_getLast?, List.getLast?_eq_getElem?, lE]
   simp only [List.length_map, List.length_cons, List.getElem?_map]
   rw [show rest.length + 1 + 1 - 1 = rest.length + 1 by omega, show rest.length + 1 - 1 = rest.length by omega]
   have h2 : rest.length < (c :: rest).length := by simp
   rw [List.getElem?_eq_getElem h2, zI (show rest.length + 1 < (b :: c :: rest).length by simp)]
   rfl
  show (∃ r, s = b.data.toList ++ r ∧ Fit ((c :: rest).map (·.data.toList)).dropLast (((c :: rest).map (·.data.toList)).getLastD []) r) ↔ _
  rw [e]; rfl
theorem mid_drop {bs : List ByteArray} {q : Nat} (h1 : 1 ≤ q) (h2 : q < bs.length - 1) : (mid bs).drop (q - 1) = tl (bs.getD q ⟨#[]⟩) :: (mid bs).drop q := by
 have hl : q - 1 < (mid bs).length := by rw [vU]; omega
 rw [List.drop_eq_getElem_cons hl, show q - 1 + 1 = q by omega, mid_get bs (q - 1) (by omega), zI (by omega)]
 congr 1
 simp only [tl, show 1 + (q - 1) = q by omega]
set_option maxRecDepth 100000 in
set_option maxHeartbeats 1600000 in
theorem rmatch_any (w : World) (kb off cap : Nat) (bs : List ByteArray) (s : ByteArray) (h : wE w kb off (txtV bs)) (hc1 : bs.length ≤ cap) (hc2 : cap ≤ maxLen) (h0 : 0 < bs.length) (hs : ∀ i (hi : i < bs.length), bs[i].size ≤ 4096) (hss : s.size ≤ 4096) :
  Calls Try.prog 62 #[.slice (some ⟨kb, off, none⟩) bs.length cap, .string s] w fun e w' => e = .returned (.bool (xD (bs.map (·.data.toList)) s.data.toList)) ∧ w.grownBy w' none := by
 have cF := xT h 0 h0
 rw [Nat.add_zero] at cF
 obtain ⟨b0, hb0⟩ : ∃ u, u = bs.getD 0 ⟨#[]⟩ := ⟨_, rfl⟩
 rw [← hb0] at cF
 have hbz : b0.size ≤ 4096 := by rw [hb0, zI h0]; exact hs 0 h0
 have hcm : cap ≤ 9223372036854775807 := by unfold maxLen at hc2; omega
 have HPM : Hid (∀ c : Bool, (c = true ↔ tS (bs.map (·.data.toList)) (tl s)) → c = xD (bs.map (·.data.toList)) s.data.toList) := Kh (fun c hc => by
  rw [Bool.eq_iff_iff, plainMatch_iff]; exact hc)
 have H := Kh h; have HB0 := Kh hb0; have HS := Kh hs
 have HPRE : Hid (tS (bs.map (·.data.toList)) (tl s) → tl b0 <+: tl s) := Kh (fun hf => by
  by_cases h1 : bs.length = 1
  ·rw [fits_one h1, ← hb0] at hf
   rw [hf]; exact List.prefix_refl _
  ·obtain ⟨r, hr, _⟩ := (fits_more (by omega)).1 hf
   rw [← hb0] at hr
   rw [hr]; exact List.prefix_append _ _)
 clear h hb0 hs hc2
 by_cases hlt : s.size < b0.size
 ·have hlt' : decide ((s.size : Int) < (b0.size : Int)) = true := by rw [decide_eq_true_eq]; omega
  go_enter Try.func62, Try.ntmps62
  go_wp2
  go_ret
  refine ⟨zW (HPM.out _ ⟨fun h => (by cases h), fun h => ?_⟩), zO _ _⟩
  have := (HPRE.out h).length_le
  rw [yR, yR] at this
  omega
 have hlt' : decide ((s.size : Int) < (b0.size : Int)) = false := by rw [decide_eq_false_iff_not]; omega
 have hle : b0.size ≤ s.size := by omega
 have hocc := occ_ext (r := s) (u := b0) (p := 0) (by omega)
 rw [Nat.zero_add] at hocc
 by_cases hp : Lib.occAt (tl s) (tl b0) 0 = true
 case neg =>
  have hp' : (!((s.extract 0 b0.size).toList == b0.toList)) = true := by rw [hocc]; simpa using hp
  have HP := Kh hp
  clear hp hocc
  go_enter Try.func62, Try.ntmps62
  go_wp2
  go_ret
  refine ⟨zW (HPM.out _ ⟨fun h => (by cases h), fun h => absurd ?_ HP.out⟩), zO _ _⟩
  rw [Lib.occAt, List.isPrefixOf_iff_prefix]
  exact HPRE.out h
 have hp' : (!((s.extract 0 b0.size).toList == b0.toList)) = false := by rw [hocc, hp]; rfl
 obtain ⟨r0, hr0⟩ : ∃ r, r = s.extract b0.size s.size := ⟨_, rfl⟩
 have hr0z : r0.size ≤ 4096 := by rw [hr0, ext_size s (Nat.le_refl _)]; omega
 have hsplit : tl s = tl b0 ++ tl r0 := by
  rw [Lib.occAt, List.isPrefixOf_iff_prefix] at hp
  obtain ⟨t, ht⟩ := hp
  rw [List.drop_zero] at ht
  rw [hr0, rS, List.take_of_length_le (by rw [List.length_drop, yR]; omega), ← yR b0, ← ht, List.drop_left]
 have HR0 := Kh hr0; have HSP := Kh hsplit
 clear hp hocc hsplit hr0
 by_cases h1 : bs.length = 1
 ·have h1' : ((bs.length : Int) == 1) = true := by simp [h1]
  have H1 := Kh h1
  clear h1
  go_enter Try.func62, Try.ntmps62
  go_wp2
  rw [← HR0.out]
  go_ret
  refine ⟨zW (HPM.out _ ?_), zO _ _⟩
  rw [fits_one H1.out, ← HB0.out, HSP.out, List.isEmpty_iff, mA]
  constructor
  ·intro h; rw [h, List.append_nil]
  ·intro h; simpa using h
 ·have h1' : ((bs.length : Int) == 1) = false := by rw [beq_eq_false_iff_ne]; omega
  have h2 : 2 ≤ bs.length := by omega
  obtain ⟨R1, hR1⟩ : ∃ R1, R1 = bs.length - 1 := ⟨_, rfl⟩
  have e71 : (bs.length : Int) - 1 = (R1 : Int) := by omega
  have hR1l : R1 < bs.length := by omega
  have hR1i : (R1 : Int) < bs.length := by omega
  have hR1p : 1 ≤ R1 := by omega
  have HR1 := Kh hR1
  have HFM : Hid (tS (bs.map (·.data.toList)) (tl s) ↔ Fit (mid bs) (lE bs) (tl r0)) := Kh (by
   rw [fits_more h2, ← HB0.out, HSP.out]
   constructor
   ·rintro ⟨r, hr, hf⟩
    have := List.append_cancel_left hr
    rw [this]; exact hf
   ·intro hf; exact ⟨_, rfl, hf⟩)
  clear h1 hR1
  go_enter Try.func62, Try.ntmps62
  go_wp2
  rw [← HR0.out]
  clear cF hp' hlt'
  go_loopg [1, 6, 7, 8, 9] R1 (fun gh s1 i s7 s8 s9 wr => ∃ (q : Nat) (r : ByteArray), gh + q = R1 + 1 ∧ i = .int .i64 q ∧ 1 ≤ q ∧ q ≤ R1 ∧ s1 = .string r ∧ r.size ≤ 4096 ∧ (Fit ((mid bs).drop (q - 1)) (lE bs) (tl r) ↔ Fit (mid bs) (lE bs) (tl r0)) ∧ w = wr)
  case atStart => exact ⟨1, r0, rfl, rfl, Nat.le_refl _, hR1p, rfl, hr0z, Iff.rfl, rfl⟩
  case round =>
   obtain ⟨q, r, hgh, rfl, hq1, hqR, rfl, hrz, hfit, rfl⟩ := hrel
   have HGH := Kh hgh; have HFT := Kh hfit
   clear hgh hfit
   by_cases hq : q < R1
   ·have hq' : (q : Int) < R1 := by omega
    have hqb : (q : Int) < bs.length := by omega
    have cu := xT H.out q (by omega)
    obtain ⟨u, hu⟩ : ∃ u, u = bs.getD q ⟨#[]⟩ := ⟨_, rfl⟩
    rw [← hu] at cu
    have huz : u.size ≤ 4096 := by rw [hu, zI (show q < bs.length by omega)]; exact HS.out q (by omega)
    have HMD := Kh (mid_drop (bs := bs) hq1 (by have := HR1.out; omega))
    rw [← hu] at HMD
    clear hu
    go_wp2
    go_loopg [8, 9] (r.size + 1) (fun gh s8 s9 wr => ∃ p : Nat, gh + p = r.size + 1 ∧ s9 = .int .i64 p ∧ w = wr ∧ ((s8 = .int .i64 (-1) ∧ NoB (tl r) (tl u) p) ∨ (∃ f : Nat, f + 1 = p ∧ s8 = .int .i64 f ∧ NoB (tl r) (tl u) f ∧ Lib.occAt (tl r) (tl u) f = true ∧ f + u.size ≤ r.size)))
    case atStart => exact ⟨0, rfl, rfl, rfl, .inl ⟨rfl, fun i hi => by omega⟩⟩
    case round =>
     clear cu
     obtain ⟨p, hghp, rfl, rfl, hcase⟩ := hrel
     have HGP := Kh hghp
     have hpz : p ≤ 4097 := by omega
     clear hghp
     rcases hcase with ⟨rfl, hno⟩ | ⟨f, hfp, rfl, hno, hocc, hfu⟩
     ·have HNO := Kh hno
      clear hno
      by_cases hpu : p + u.size ≤ r.size
      ·have hpu' : decide ((p : Int) + (u.size : Int) ≤ (r.size : Int)) = true := by rw [decide_eq_true_eq]; omega
       have hoe := occ_ext (r := r) (u := u) (p := p) hpu
       by_cases ho : Lib.occAt (tl r) (tl u) p = true
       ·rw [ho] at hoe
        have HO := Kh ho
        clear ho
        go_wp2
        go_roundg (r.size + 1 - (p + 1))
        case measure => have := HGP.out; omega
        case rel => exact ⟨p + 1, by have := HGP.out; omega, by go_num, rfl, .inr ⟨p, rfl, rfl, HNO.out, HO.out, hpu⟩⟩
       ·have ho' : Lib.occAt (tl r) (tl u) p = false := by simpa using ho
        rw [ho'] at hoe
        have HO := Kh ho'
        clear ho ho'
        go_wp2
        go_roundg (r.size + 1 - (p + 1))
        case measure => have := HGP.out; omega
        case rel =>
         refine ⟨p + 1, by have := HGP.out; omega, by go_num, rfl, .inl ⟨rfl, fun i hi => ?_⟩⟩
         by_cases e : i = p
         ·rw [e]; exact HO.out
         ·exact HNO.out i (by omega)
      ·have hpu' : decide ((p : Int) + (u.size : Int) ≤ (r.size : Int)) = false := by rw [decide_eq_false_iff_not]; omega
       go_wp2
       go_ret
       refine ⟨zW (HPM.out _ ⟨fun h => (by cases h), fun h => ?_⟩), zO _ _⟩
       rw [HFM.out, ← HFT.out, HMD.out] at h
       exact absurd h (fit_none HNO.out (by rw [yR, yR]; exact hpu))
     ·have HFP := Kh hfp; have HNO := Kh hno; have HOC := Kh hocc
      have hf1 : ((f : Int) == -1) = false := by rw [beq_eq_false_iff_ne]; omega
      have hrs : (f : Int) + u.size ≤ r.size := by omega
      have hez := ext_size r (i := f + u.size) (j := r.size) (Nat.le_refl _)
      have HEZ := Kh hez
      have HRE : Hid (Fit ((mid bs).drop (q + 1 - 1)) (lE bs) (tl (r.extract (f + u.size) r.size)) ↔ Fit (mid bs) (lE bs) (tl r0)) := Kh (by
       rw [← HFT.out, HMD.out, Nat.add_sub_cancel, fit_occ hno hocc (by rw [yR, yR]; exact hfu), rS, List.take_of_length_le (by rw [List.length_drop, yR]; omega), yR])
      clear hfp hno hocc hez
      by_cases hpu : p + u.size ≤ r.size
      ·have hpu' : decide ((p : Int) + (u.size : Int) ≤ (r.size : Int)) = true := by rw [decide_eq_true_eq]; omega
       go_wp2
       go_roundg (R1 + 1 - (q + 1))
       case measure => have := HGH.out; omega
       case rel => exact ⟨q + 1, _, by have := HGH.out; omega, by go_num, by omega, by omega, rfl, by rw [HEZ.out]; omega, HRE.out, rfl⟩
      ·have hpu' : decide ((p : Int) + (u.size : Int) ≤ (r.size : Int)) = false := by rw [decide_eq_false_iff_not]; omega
       go_wp2
       go_roundg (R1 + 1 - (q + 1))
       case measure => have := HGH.out; omega
       case rel => exact ⟨q + 1, _, by have := HGH.out; omega, by go_num, by omega, by omega, rfl, by rw [HEZ.out]; omega, HRE.out, rfl⟩
   ·have hqe : q = R1 := by omega
    have hq' : ¬ (q : Int) < R1 := by omega
    have cl := xT H.out R1 hR1l
    obtain ⟨v, hv⟩ : ∃ u, u = bs.getD R1 ⟨#[]⟩ := ⟨_, rfl⟩
    rw [← hv] at cl
    have hvz : v.size ≤ 4096 := by rw [hv, zI hR1l]; exact HS.out R1 hR1l
    have HLU : Hid (lE bs = tl v) := Kh (by rw [lE, ← HR1.out, ← hv])
    have HEND : Hid (tS (bs.map (·.data.toList)) (tl s) ↔ ∃ q, tl r = q ++ tl v) := Kh (by
     rw [HFM.out, ← HFT.out, HLU.out, List.drop_eq_nil_of_le (by rw [vU, hqe]; have := HR1.out; omega)]
     exact Iff.rfl)
    clear hv hqe
    by_cases hge : v.size ≤ r.size
    ·have hge' : decide ((v.size : Int) ≤ (r.size : Int)) = true := by rw [decide_eq_true_eq]; omega
     have hge2 : decide ((r.size : Int) ≥ (v.size : Int)) = true := by rw [decide_eq_true_eq]; omega
     obtain ⟨dd, hdd⟩ : ∃ dd, dd = r.size - v.size := ⟨_, rfl⟩
     have edd : (r.size : Int) - (v.size : Int) = (dd : Int) := by omega
     have hddr : (dd : Int) ≤ r.size := by omega
     have HDD := Kh hdd
     clear hdd
     go_wp2
     go_ret
     refine ⟨zW (HPM.out _ ?_), zO _ _⟩
     rw [HEND.out, beq_iff_eq, kB, mA, List.take_of_length_le (by rw [List.length_drop, yR]; omega)]
     constructor
     ·intro h
      exact ⟨(tl r).take dd, by rw [← h, List.take_append_drop]⟩
     ·rintro ⟨y, hy⟩
      have hyl := congrArg List.length hy
      rw [List.length_append, yR, yR] at hyl
      rw [hy, show dd = y.length by have := HDD.out; omega, List.drop_left]
    ·have hge' : decide ((v.size : Int) ≤ (r.size : Int)) = false := by rw [decide_eq_false_iff_not]; omega
     have hge2 : decide ((r.size : Int) ≥ (v.size : Int)) = false := by rw [decide_eq_false_iff_not]; omega
     go_wp2
     go_ret
     refine ⟨zW (HPM.out _ ⟨fun h => (by cases h), fun h => ?_⟩), zO _ _⟩
     obtain ⟨y, hy⟩ := HEND.out.1 h
     have hyl := congrArg List.length hy
     rw [List.length_append, yR, yR] at hyl
     omega
set_option maxRecDepth 100000 in
set_option maxHeartbeats 800000 in
theorem rMatch_any (B : Nat) (w : World) (v : Value) (bs : List ByteArray) (s : ByteArray) (h : Row B w v (txtV bs)) (hs : ∀ i (hi : i < bs.length), bs[i].size ≤ maxLen) (hss : s.size ≤ maxLen) :
  Calls Try.prog 42 #[.agg #[v], .string s] w fun e w' => e = .returned (.bool (yM bs s)) ∧ w.grownBy w' none := by
 obtain ⟨a, cap, rfl⟩ := h.shape
 rw [zR] at h ⊢
 have H := Kh h
 have hg1 := World.grownBy_alloc w (.cells #[.slice a bs.length cap] 36) none
 have hb1 := heap_alloc_new w (.cells #[.slice a bs.length cap] 36)
 obtain ⟨w1, hw1⟩ : ∃ w1, w1 = w.alloc (.cells #[.slice a bs.length cap] 36) := ⟨_, rfl⟩
 obtain ⟨P, hP⟩ : ∃ P, P = w.heap.size := ⟨_, rfl⟩
 rw [← hw1] at hg1 hb1
 rw [← hP] at hb1
 have c0 : w1.cell? ⟨P, 0, none⟩ = some (.slice a bs.length cap) := by simpa using zK hb1 0 (by simp)
 have HVA := Kh (mF B w1 _ bs 6 (h.kept hg1 (by simp)) hs)
 have HW1 := Kh hw1; have HP := Kh hP; have HG1 := Kh hg1; have HB1 := Kh hb1
 clear h hg1 hb1 hw1 hP hs
 go_enter Try.func42, Try.ntmps42
 go_upto_region 1 with fail
 rw [← HW1.out, ← HP.out]
 go_wp2_with fail
 refine HVA.out.mono ?_
 rintro e w2 ⟨rfl, hg2⟩
 have HG2 := Kh (zB HG1.out hg2 (by simp))
 have c2 : w2.cell? ⟨P, 0, none⟩ = some (.slice a bs.length cap) := by simpa using zK (zA HB1.out hg2 (by simp)) 0 (by simp)
 clear hg2 HVA c0
 by_cases hE : patW bs 6 = 0
 case neg =>
  have hM : Hid (yM bs s = false) := Kh (by
   have : ¬ zT bs 6 = 0 := fun e => hE (vZ.2 e)
   simp [yM, this])
  obtain ⟨E, hEE⟩ : ∃ E, E = patW bs 6 := ⟨_, rfl⟩
  rw [← hEE] at hE ⊢
  have e1 : (E == 0) = false := by rw [beq_eq_false_iff_ne]; exact hE
  clear hE hEE
  go_wp2
  go_ret
  exact ⟨zW hM.out.symm, HG2.out⟩
 rw [hE]
 have hV := vZ.1 hE
 have HV := Kh hV
 obtain ⟨_, _, h0, h8, _, hwv, _⟩ := jL hV
 clear hE hV
 go_wp2_with fail
 refine (nX s 6 _ hss).mono ?_
 rintro e w3 ⟨rfl, rfl⟩
 by_cases hW : zU s 6 = true
 ·obtain ⟨b, off, _, ea, hbB, hbc, hbm, hra⟩ := (H.out.kept HG2.out (by simp)).some_ (by rw [zR]; exact h0)
  rw [zR] at ea hbc
  simp only [Value.slice.injEq] at ea
  obtain ⟨rfl, _, rfl⟩ := ea
  have HM := Kh (rmatch_any w2 b off cap bs s hra hbc hbm h0 (fun i hi => by
   have := hwv i hi
   simp [zU] at this
   omega) (by simp [zU] at hW; omega))
  have HPM : Hid (yM bs s = xD (bs.map (·.data.toList)) s.data.toList) := Kh (by
   rw [yM, HV.out, hW]; simp)
  rw [hW]
  clear hra hwv
  go_wp2_with fail
  refine HM.out.mono ?_
  rintro e w3 ⟨rfl, hg3⟩
  have HG3 := Kh (zB HG2.out hg3 (by simp))
  clear hg3
  go_wp2
  go_ret
  exact ⟨zW HPM.out.symm, HG3.out⟩
 ·have hW' : zU s 6 = false := by simpa using hW
  have hM : Hid (yM bs s = false) := Kh (by simp [yM, hW'])
  rw [hW']
  clear hW hW' hwv
  go_wp2
  go_ret
  exact ⟨zW hM.out.symm, HG2.out⟩
end Go.Proofs.Ytgbfaggnnfoamaa
