/- Part 33 of the proof: MatchW, MadePat, Fits, PatWord, RVal33. -/
import Derived.Test.YtgbfaggnnfoamaaZh32
set_option linter.unusedVariables false
set_option linter.unusedSimpArgs false
namespace Go.Proofs.Ytgbfaggnnfoamaa
open Go.RowKit
set_option maxRecDepth 100000 in
set_option maxHeartbeats 400000 in
theorem match_anyW (b off cap : Nat) (bs : List ByteArray) (s : ByteArray) (w : World) (hcap : bs.length ≤ cap) (hcm : cap ≤ maxLen)
  (hra : wD w b off (bs.map .string)) (hs : ∀ i (h : i < bs.length), bs[i].size ≤ maxLen) (hss : s.size ≤ maxLen) (hL : vV w) :
  Calls Try.prog 19 #[.agg #[.slice (some ⟨b, off, none⟩) bs.length cap], .string s] w fun e w' => e = .returned (.bool (yL bs s)) ∧ w.grownBy w' none := by
 have hss' : s.size ≤ 9223372036854775807 := by unfold maxLen at hss; omega
 have g0 := World.grownBy_alloc w (.cells #[.slice (some ⟨b, off, none⟩) bs.length cap] 36) none
 have ra0 := hra.kept g0 (by simp)
 go_enter Try.func19, Try.ntmps19
 go_wp2_with fail
 have bx0 := heap_alloc_new w (.cells #[.slice (some ⟨b, off, none⟩) bs.length cap] 36)
 have hrow : Row (b + 1) (w.alloc (.cells #[.slice (some ⟨b, off, none⟩) bs.length cap] 36)) (.slice (some ⟨b, off, none⟩) bs.length cap) (txtV bs) := .inr ⟨b, off, cap, by rw [zO], by omega, by rw [zO]; exact hcap, hcm, ra0⟩
 refine (pG (b + 1) _ _ bs 6 hrow hs).mono ?_
 rintro e w1 ⟨rfl, g1⟩
 have ra1 := ra0.kept g1 (by simp)
 have hc1 := zK (zA bx0 g1 (by simp)) 0 (by simp)
 simp only [List.getElem_toArray, List.getElem_cons_zero] at hc1
 have hL1 := (hL.kept g0 (by simp)).kept g1 (by simp)
 have gw := zF g0 g1
 clear g0 ra0 bx0 g1 hra
 clear hrow
 have hEV : patW bs 6 = 0 ↔ zX bs 6 = 0 := vY
 obtain ⟨E, hEE⟩ : ∃ E, E = patW bs 6 := ⟨_, rfl⟩
 rw [← hEE] at hEV ⊢
 have HEE := Kh hEE
 clear hEE
 by_cases hV : zX bs 6 = 0
 ·have hE0 : E = 0 := hEV.2 hV
  subst hE0
  clear hEV
  have HV := Kh hV; clear hV
  go_wp2_with fail
  refine (uK s 6 _ (by unfold maxLen; omega)).mono ?_
  rintro e w2 ⟨rfl, rfl⟩
  have hz := wZ HV.out
  have hn0 : 0 < bs.length := hz.2.2.2.2.1
  have hn8 : bs.length ≤ 8 := hz.2.2.1
  have hc0 := ra1.map 0 hn0
  rw [Nat.add_zero] at hc0
  have hcm' : cap ≤ 9223372036854775807 := by unfold maxLen at hcm; omega
  have hCM := Kh hcm; clear hz hcm
  by_cases hW : zV s 6 = true
  ·by_cases h1 : bs.length = 1
   ·have h1' : ((bs.length : Int) - 1 == 0) = true := by simp [h1]
    have H1 := Kh h1; clear h1
    go_wp2
    go_ret
    exact ⟨zU (oU HV.out hW H1.out hn0).symm, gw⟩
   ·have h1' : ((bs.length : Int) - 1 == 0) = false := by rw [beq_eq_false_iff_ne]; omega
    go_wp2_with fail
    refine (Try.strings_CutPrefix _ _ _).mono ?_
    rintro e w2 ⟨rfl, rfl⟩
    by_cases hP : Lib.hasPrefix s.data.toList bs[0].data.toList = true
    ·go_wp2
     go_loopw [6, 46] (fun rs i wr => ∃ (k : Nat) (r : List UInt8), k ≤ bs.length - 1 - 1 ∧ i = .int .i64 k ∧ rs = .string ⟨r.toArray⟩ ∧ r.length ≤ 2048 ∧
       vO ((mid bs).drop k) r = vO (mid bs) (Lib.trimPrefix s.data.toList bs[0].data.toList) ∧
       wD wr b off (bs.map .string) ∧ wr.cell? ⟨w.heap.size, 0, none⟩ = some (.slice (some ⟨b, off, none⟩) bs.length cap) ∧ vV wr ∧ w.grownBy wr none)
      (fun _ i _ => bs.length - (intOf i).toNat)
     case atStart => exact ⟨0, _, Nat.zero_le _, rfl, rfl, trim_le HV.out hW, rfl, ra1, hc1, hL1, gw⟩
     case round =>
      clear ra1 hc1 hL1 gw hc0
      obtain ⟨k, r, hk, rfl, rfl, hrl, hfind, rar, hcr, hLr, gr⟩ := hrel
      have HF := Kh hfind; clear hfind
      by_cases hlt : k < bs.length - 1 - 1
      ·have hck := rar.map (1 + k) (by omega)
       rw [← Nat.add_assoc] at hck
       have hlt' : (k : Int) < ((bs.length - 1 - 1 : Nat) : Int) := by omega
       go_wp2_with fail
       obtain ⟨_, m, hm⟩ := id hLr
       refine (Try.strings_Cut _ _ m _ (by
        have : (ByteArray.mk r.toArray).size = r.toArray.size := rfl
        rw [this, List.size_toArray]; omega) hm).mono ?_
       rintro e w3 ⟨rfl, m', rfl⟩
       have hcl := cut_le r bs[1 + k].data.toList
       by_cases hf : (Lib.cut r bs[1 + k].data.toList).2.2 = true
       ·go_wp2
        go_roundw
        case rel =>
         exact ⟨k + 1, _, by omega, by go_num, rfl, by omega, by rw [← HF.out]; exact nC bs r k hlt hf, rar.of_heap rfl, hcr, hLr.kept (zJ _ _ none) (by simp), zF gr (zJ _ _ _)⟩
        case measure => simp [intOf]; omega
       ·go_wp2
        go_ret
        exact ⟨zU (by rw [eq_comm]; exact pI (by omega) (by omega) (by rw [← HF.out]; exact oZ bs r k hlt hf)), zF gr (zJ _ _ _)⟩
      ·have hcl := rar.map (bs.length - 1) (by omega)
       have hi1 : ((bs.length : Int) - 1).toNat = bs.length - 1 := by omega
       have hi2 : (bs.length : Int) - 1 < bs.length := by omega
       have hi3 : 0 ≤ (bs.length : Int) - 1 := by omega
       go_wp2_with fail
       refine (Try.strings_HasSuffix _ _ _ (by
        have : (ByteArray.mk r.toArray).size = r.toArray.size := rfl
        rw [this, List.size_toArray]; omega)).mono ?_
       rintro e w3 ⟨rfl, rfl⟩
       go_wp2
       go_ret
       refine ⟨zU ?_, gr⟩
       rw [eq_comm]
       refine oV HV.out hW (by omega) (by omega) hP ?_
       rw [← HF.out, List.drop_eq_nil_of_le (by rw [vT]; omega)]
       rfl
    ·go_wp2
     go_ret
     exact ⟨zU (by rw [eq_comm]; exact qG (by omega) (by omega) hP), gw⟩
  ·go_wp2
   go_ret
   exact ⟨zU (by simp [yL, hW]), gw⟩
 ·have hV'' : (E != 0) = true := by rw [bne_iff_ne]; exact fun e => hV (hEV.1 e)
  have hV' : (E == 0) = false := by rw [beq_eq_false_iff_ne]; exact fun e => hV (hEV.1 e)
  clear hEV
  have HV := Kh hV; clear hV
  go_wp2
  go_ret
  exact ⟨zU (by simp [yL, HV.out]), gw⟩
theorem kN : ElemOk Try.prog 34 9 (.string ⟨#[]⟩) 16 := ⟨Try.underlying34, by kernel_rfl, rfl⟩
def strs (bs : List (List Int)) : List Value := bs.map fun l => .string (strOfNums l)
def Fit : List (List UInt8) → List UInt8 → List UInt8 → Prop
 | [], v, r => ∃ q, r = q ++ v
 | u :: us, v, r => ∃ p r', r = p ++ u ++ r' ∧ Fit us v r'
theorem Fit.more : ∀ {us : List (List UInt8)} {v r : List UInt8} (p : List UInt8), Fit us v r → Fit us v (p ++ r)
 | [], v, r, p, ⟨q, h⟩ => ⟨p ++ q, by rw [h, List.append_assoc]⟩
 | u :: us, v, r, p, ⟨q, r', h, hf⟩ => ⟨p ++ q, r', by rw [h]; simp only [List.append_assoc], hf⟩
theorem nN {r u p q : List UInt8} (h : r = p ++ u ++ q) : Lib.occAt r u p.length = true := by
 subst h
 unfold Lib.occAt
 rw [List.append_assoc, List.drop_left, List.isPrefixOf_iff_prefix]
 exact List.prefix_append _ _
theorem occAt_to {r u : List UInt8} {i : Nat} (h : Lib.occAt r u i = true) (hi : i ≤ r.length) : r = r.take i ++ u ++ r.drop (i + u.length) := by
 unfold Lib.occAt at h
 rw [List.isPrefixOf_iff_prefix] at h
 obtain ⟨t, ht⟩ := h
 have h1 : r = r.take i ++ (u ++ t) := by rw [ht, List.take_append_drop]
 have h2 : r.drop (i + u.length) = t := by rw [← List.drop_drop, ← ht, List.drop_left]
 rw [h2, List.append_assoc]
 exact h1
theorem fit_cut (us : List (List UInt8)) (u v r : List UInt8) : Fit (u :: us) v r ↔ (Lib.cut r u).2.2 = true ∧ Fit us v (Lib.cut r u).2.1 := by
 unfold Lib.cut
 rcases Lib.index_spec r u with ⟨h, hno⟩ | ⟨i, h, hi, hocc, hno⟩
 ·rw [if_neg (by omega)]
  constructor
  ·rintro ⟨p, r', hr, _⟩
   have := hno p.length (by rw [hr]; simp)
   rw [nN hr] at this
   cases this
  ·rintro ⟨h, _⟩; cases h
 ·rw [if_pos (by omega), h]
  simp only [Int.toNat_natCast, true_and]
  constructor
  ·rintro ⟨p, r', hr, hf⟩
   have hip : i ≤ p.length := by
    rcases Nat.lt_or_ge p.length i with hlt | hge
    ·have := hno p.length hlt
     rw [nN hr] at this
     cases this
    ·exact hge
   have hd : r.drop (p.length + u.length) = r' := by
    rw [hr, ← List.length_append, List.drop_left]
   have he : r.drop (i + u.length) = (r.drop (i + u.length)).take (p.length - i) ++ r' := by
    have e : r' = (r.drop (i + u.length)).drop (p.length - i) := by rw [List.drop_drop, ← hd]; congr 1; omega
    rw [e, List.take_append_drop]
   rw [he]
   exact hf.more _
  ·intro hf
   exact ⟨_, _, occAt_to hocc hi, hf⟩
theorem oX : ∀ (us : List (List UInt8)) (r v : List UInt8), rS us r v = true ↔ Fit us v r
 | [], r, v => by
  show Lib.hasSuffix r v = true ↔ _
  unfold Lib.hasSuffix
  rw [List.isSuffixOf_iff_suffix]
  exact ⟨fun ⟨q, h⟩ => ⟨q, h.symm⟩, fun ⟨q, h⟩ => ⟨q, h.symm⟩⟩
 | u :: us, r, v => by
  rw [fit_cut]
  unfold rS vO
  by_cases h : (Lib.cut r u).2.2 = true
  ·rw [if_pos h]
   have := oX us (Lib.cut r u).2.1 v
   unfold rS at this
   rw [this]
   exact ⟨fun h' => ⟨h, h'⟩, fun h' => h'.2⟩
  ·rw [if_neg h]
   exact ⟨fun h' => (by cases h'), fun h' => absurd h'.1 h⟩
def tQ : List (List UInt8) → List UInt8 → Prop
 | [], _ => False
 | [b], s => s = b
 | b :: c :: rest, s => ∃ r, s = b ++ r ∧ Fit (c :: rest).dropLast ((c :: rest).getLastD []) r
theorem plainMatch_iff : ∀ (bs : List (List UInt8)) (s : List UInt8), yX bs s = true ↔ tQ bs s
 | [], s => by simp [yX, tQ]
 | [b], s => by simp [yX, tQ]
 | b :: c :: rest, s => by
  simp only [yX, tQ, Bool.and_eq_true, oX]
  unfold Lib.hasPrefix
  rw [List.isPrefixOf_iff_prefix]
  constructor
  ·rintro ⟨⟨t, ht⟩, hf⟩
   refine ⟨t, ht.symm, ?_⟩
   rwa [← ht, List.drop_left] at hf
  ·rintro ⟨r, rfl, hf⟩
   exact ⟨List.prefix_append _ _, by rwa [List.drop_left]⟩
theorem pat_nonempty {bs : List ByteArray} {k : Int} (h : zX bs k = 0) : ∃ b us, bs.map zH = b :: us ∧ ∀ u ∈ us.dropLast, u ≠ [] := by
 obtain ⟨h1, h6, h0, h8, ht, hw, hne⟩ := patOk h
 match bs, h0 with
 | b :: rest, _ =>
  refine ⟨zH b, rest.map zH, rfl, fun u hu => ?_⟩
  obtain ⟨i, hi, rfl⟩ := List.getElem_of_mem hu
  have hi2 : i + 1 < rest.length := by
   rw [List.length_dropLast, List.length_map] at hi; omega
  have := hne (i + 1) (by simp; omega) (by omega) (by simp; omega)
  simp only [List.getElem_cons_succ] at this
  intro e
  rw [List.getElem_dropLast, List.getElem_map] at e
  have e2 := congrArg List.length e
  rw [yH, List.length_nil] at e2
  omega
theorem jB {bs : List ByteArray} {k : Nat} (h : zX bs (k : Int) = 0) : ∃ n, n ≤ 66 ∧ VD (uI bs (k : Int)) n k := by
 obtain ⟨h1, h6, h0, h8, ht, hw, _⟩ := patOk h
 have hvd := oG (k := k) (by omega) (by omega) h0 ht
 have hl := sX (k := k) h0 ht
 rw [uI, if_pos (vY.2 h), Int.toNat_natCast]
 exact ⟨_, Nat.le_trans (minN_le hvd) hl.2, mI hvd⟩
set_option maxRecDepth 100000 in
set_option maxHeartbeats 400000 in
theorem pD (B : Nat) (w : World) (v : Value) (bs : List ByteArray) (letters : Int) (h : Row B w v (txtV bs)) (hs : ∀ i (hi : i < bs.length), bs[i].size ≤ maxLen) :
    Calls Try.prog 21 #[.agg #[v], .int .i64 letters] w fun e w' => e = .returned (.int .i64 (patW bs letters)) ∧ w.grownBy w' none := by
  have hlm := h.len_le
  rw [zO] at hlm
  have hlm' : bs.length ≤ 9223372036854775807 := by unfold maxLen at hlm; omega
  have H := Kh h; have HS := Kh hs
  obtain ⟨a, cap, rfl⟩ := h.shape
  rw [zO] at H ⊢
  clear h hs hlm
  by_cases h1 : letters < 1 ∨ 6 < letters
  · have e1 : decide (1 ≤ letters ∧ letters ≤ 6) = false := by rw [decide_eq_false_iff_not]; omega
    have H1 := Kh h1
    clear h1
    go_enter Try.func21, Try.ntmps21
    go_wp2_with fail
    refine (wW _ letters).mono ?_
    rintro e w' ⟨rfl, rfl⟩
    rw [e1]
    go_wp2
    go_ret
    exact ⟨yN (by rw [patW, if_pos H1.out]), World.grownBy_alloc _ _ _⟩
  have e1 : decide (1 ≤ letters ∧ letters ≤ 6) = true := by rw [decide_eq_true_eq]; omega
  go_enter Try.func21, Try.ntmps21
  go_wp2_with fail
  refine (wW _ letters).mono ?_
  rintro e w' ⟨rfl, rfl⟩
  rw [e1]
  go_wp2
  go_loopg [5, 7, 16] bs.length (fun gh t a7 i wr => w.alloc (.cells #[.slice a bs.length cap] 36) = wr ∧ ∃ k : Nat, gh + k = bs.length ∧ i = .int .i64 k ∧ t = .int .i64 (totW (bs.take k)))
  case atStart => exact ⟨rfl, 0, rfl, rfl, rfl⟩
  case round =>
    obtain ⟨hw, k, hgh, rfl, rfl⟩ := hrel
    have HGH := Kh hgh
    clear hgh
    by_cases hlt : k < bs.length
    · have hlt' : (k : Int) < bs.length := by omega
      obtain ⟨kb, off, kc, e, _, hk1, hk2, hkr⟩ := (H.out.kept (World.grownBy_alloc w (.cells #[.slice a bs.length cap] 36) none) (by simp)).some_ (by rw [zO]; omega)
      rw [hw] at hkr
      rw [zO] at e hk1
      simp only [Value.slice.injEq] at e
      obtain ⟨rfl, _, rfl⟩ := e
      have hc := xR hkr k hlt
      have HS2 := Kh (pA bs k hlt)
      obtain ⟨u, hu⟩ : ∃ u, u = bs.getD k ⟨#[]⟩ := ⟨_, rfl⟩
      have hus : u.size ≤ 9223372036854775807 := by
        rw [hu, zI hlt]; have := HS.out k hlt; unfold maxLen at this; omega
      rw [← hu] at hc HS2
      have HW := Kh hw
      clear hkr hu hw
      go_wp2
      go_roundg (bs.length - (k + 1))
      case measure => have := HGH.out; omega
      case rel => exact ⟨HW.out, k + 1, by have := HGH.out; omega, by go_num, by rw [HS2.out]⟩
    · have hkn : k = bs.length := by have := HGH.out; omega
      have HT : Hid (totW (bs.take k) = totW bs) := Kh (by rw [hkn, List.take_length])
      rw [HT.out]
      have hkn' : ¬ (k : Int) < bs.length := by omega
      have HG : Hid (w.grownBy wr none) := Kh (by rw [← hw]; exact World.grownBy_alloc _ _ _)
      have hb := heap_alloc_new w (.cells #[.slice a bs.length cap] 36)
      rw [hw] at hb
      have c0 : wr.cell? ⟨w.heap.size, 0, none⟩ = some (.slice a bs.length cap) := by simpa using zK hb 0 (by simp)
      have HR : Hid (Row B wr (.slice a bs.length cap) (txtV bs)) := Kh (H.out.kept HG.out (by simp))
      clear hkn hw hb HGH
      obtain ⟨tw, htw⟩ : ∃ tw, tw = totW bs := ⟨_, rfl⟩
      rw [← htw]
      have HTW := Kh htw
      clear htw
      by_cases h3 : 8 < bs.length
      · have h3' : (8 : Int) < bs.length := by omega
        go_wp2
        go_ret
        exact ⟨yN (by rw [patW, if_neg (by omega), if_pos h3]), HG.out⟩
      have h3' : ¬ (8 : Int) < bs.length := by omega
      by_cases h4 : 64 < tw
      · go_wp2
        go_ret
        exact ⟨yN (by rw [patW, if_neg (by omega), if_neg (by omega), if_pos (by rw [← HTW.out]; exact h4)]), HG.out⟩
      by_cases h5 : bs.length = 0
      · have h5' : ((bs.length : Int) == 0) = true := by simp [h5]
        have H5 := Kh h5; clear h5
        go_wp2
        go_ret
        exact ⟨yN (by rw [patW, if_neg (by omega), if_neg (by omega), if_neg (by rw [← HTW.out]; omega), if_pos H5.out]), HG.out⟩
      have h5' : ((bs.length : Int) == 0) = false := by rw [beq_eq_false_iff_ne]; omega
      go_wp2
      go_loopg [8, 9, 40] bs.length (fun gh a8 a9 i wq => wr = wq ∧ ∃ k : Nat, gh + k = bs.length ∧ i = .int .i64 k ∧ xL bs.length letters k (bs.drop k) = xL bs.length letters 0 bs)
      case atStart => exact ⟨rfl, 0, rfl, rfl, rfl⟩
      case round =>
        obtain ⟨rfl, j, hgh, rfl, hok⟩ := hrel
        have HGH := Kh hgh; have HOK := Kh hok
        clear hgh hok
        by_cases hj : j < bs.length
        · have hj' : (j : Int) < bs.length := by omega
          obtain ⟨kb, off, kc, e, _, hk1, hk2, hkr⟩ := HR.out.some_ (by rw [zO]; omega)
          rw [zO] at e hk1
          simp only [Value.slice.injEq] at e
          obtain ⟨rfl, _, rfl⟩ := e
          have hc := xR hkr j hj
          obtain ⟨u, hu⟩ : ∃ u, u = bs.getD j ⟨#[]⟩ := ⟨_, rfl⟩
          have hus : u.size ≤ maxLen := by rw [hu, zI hj]; exact HS.out j hj
          rw [← hu] at hc
          have HU : Hid (u = bs[j]) := Kh (by rw [hu, zI hj])
          clear hkr hu
          go_wp2_with (go_at_call 40; refine (nR u letters _ hus).mono ?_; rintro e w' ⟨rfl, rfl⟩)
          all_goals first
            | (go_ret
               exact ⟨yN (by rw [mC (by omega) (by omega) (by rw [← HTW.out]; omega) (by omega), oI hj (by rw [← HU.out]; first | exact qQ (by assumption) (by assumption) (List.isEmpty_iff.2 (by assumption)) | exact qR (by assumption)) HOK.out]; rfl), HG.out⟩)
            | (go_roundg (bs.length - (j + 1))
               case rel => exact ⟨rfl, j + 1, by have := HGH.out; omega, by go_num, qO hj (qP (by rw [← HU.out]; assumption) (by rw [← HU.out]; first | (left; omega) | (right; exact Bool.eq_false_iff.2 (fun e => absurd (List.isEmpty_iff.1 e) (by assumption))))) HOK.out⟩
               case measure => have := HGH.out; omega)
        · have hj' : ¬ (j : Int) < bs.length := by omega
          have e : xL bs.length letters j (bs.drop j) = true := by rw [List.drop_eq_nil_of_le (by omega)]; rfl
          have HE := Kh e
          clear e
          go_wp2
          go_ret
          exact ⟨yN (by rw [mC (by omega) (by omega) (by rw [← HTW.out]; omega) (by omega), ← HOK.out, HE.out]; rfl), HG.out⟩
end Go.Proofs.Ytgbfaggnnfoamaa
