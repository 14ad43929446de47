/- Part 25 of the proof: CQb, CMin, CAut, MadePat, Fits, PatWord, Lets. -/
import Derived.Test.YtjfdomfendbhfaaQb24
set_option linter.unusedVariables false
set_option linter.unusedSimpArgs false
namespace Go.Proofs.Ytjfdomfendbhfaa
open Go.RowKit
theorem wU {α : Type} {l m : List α} {i : Nat} {d : α} (h : i < l.length) : (l ++ m).getD i d = l.getD i d := by
 rw [List.getD_eq_getElem?_getD, List.getElem?_append_left h, ← List.getD_eq_getElem?_getD]
section
variable {w0 w w' : World} {T F N C B k cnt c0 : Nat} {p : List Nat} {fs : List Bool} {t : List (List Int)} {gs : List Nat}
end
theorem DfaT.shapes {w : World} {f nx : Value} {d : DfaV} (h : DfaT w f nx d) : ∃ sa n1 c1 sb n2 c2, f = .slice sa n1 c1 ∧ nx = .slice sb n2 c2 := by
 obtain ⟨hs, a, b, _⟩ := h
 obtain ⟨sa, c1, rfl⟩ := a.shape
 obtain ⟨sb, c2, rfl⟩ := b.shape
 exact ⟨sa, _, c1, sb, _, c2, rfl, rfl⟩
def autD (ps : List (List ByteArray)) (letters : Int) : List DfaV := ps.map fun p => xE p letters
def AutRet (w : World) (E : Int) (ds : List DfaV) (e : Ending) (w' : World) : Prop := ∃ sa n sc, e = .returned (.tuple #[.slice sa n sc, .int .i64 E]) ∧ w.grownBy w' none ∧ ((E ≠ 0) ∨ (E = 0 ∧ n = ds.length ∧ ∃ l, l.map (·.1) = ds ∧ DsUp w.heap.size w' (.slice sa n sc) l))
set_option maxRecDepth 100000 in
set_option maxHeartbeats 1600000 in
theorem automata_any (B : Nat) (w : World) (v : Value) (ps : List (List ByteArray)) (letters : Int) (hB : B ≤ w.heap.size) (h : vJ B w v ps) (hl : ps.length ≤ 4096) :
  Calls Try.prog 56 #[v, .int .i64 letters] w (AutRet w (vL letters ps) (autD ps letters)) := by
 obtain ⟨a, c, rfl⟩ := h.shape
 obtain ⟨n, hn⟩ : ∃ n, n = ps.length := ⟨_, rfl⟩
 have HN := Kh hn; have H := Kh h
 rw [← hn] at hl H ⊢
 clear h hn
 go_enter Try.func56, Try.ntmps56
 go_wp2
 go_loopg [7, 8, 16] n (fun gh s7 s8 i wr => ∃ k : Nat, gh + k = n ∧ i = .int .i64 k ∧ vL letters (ps.drop k) = vL letters ps ∧ w.grownBy wr none)
 case atStart => exact ⟨0, rfl, rfl, rfl, zL _ _⟩
 case round =>
  obtain ⟨k, hgh, rfl, hpe, hg⟩ := hrel
  have HGH := Kh hgh; have HG := Kh hg; have HPEE := Kh hpe
  clear hgh hpe
  by_cases hk : k < n
  ·have hk' : (k : Int) < n := by omega
   have hps := H.out.kept hg (by simp)
   obtain ⟨b, off, cap, e, hbB, hb2, hb3, hall⟩ := hps.at_ (by rw [← HN.out]; omega)
   rw [← HN.out] at e hb2 hall
   simp only [Value.slice.injEq, true_and] at e
   obtain ⟨rfl, rfl⟩ := e
   obtain ⟨sa, sc, c1, hrow, hsz⟩ := hall k hk
   obtain ⟨q, hq⟩ : ∃ q, q = ps.getD k [] := ⟨_, rfl⟩
   rw [← hq] at c1 hrow hsz
   have hmx : c ≤ 9223372036854775807 := by unfold maxLen at hb3; omega
   have HV : Hid (∀ W : World, wr.grownBy W none → Calls Try.prog 36 #[.agg #[.slice sa q.length sc], .int .i64 letters] W fun e w' => e = .returned (.int .i64 (patW q letters)) ∧ w.grownBy w' none) := Kh (fun W hW => (nY B W _ q letters (hrow.kept hW (by simp)) hsz).mono fun e w' ⟨he, hg'⟩ => ⟨he, zA HG.out (zF hW hg') (by simp)⟩)
   have HQ := Kh hq
   obtain ⟨E, hE⟩ : ∃ E, E = patW q letters := ⟨_, rfl⟩
   rw [← hE] at HV
   have HE := Kh hE
   obtain ⟨ql, hql⟩ : ∃ n, n = q.length := ⟨_, rfl⟩
   rw [← hql] at c1 HV
   clear hps hall hrow hsz hq hg hE hql
   go_wp2_with fail
   refine (HV.out _ (World.grownBy_alloc wr _ none)).mono ?_
   rintro e w1 ⟨rfl, hg1⟩
   have HG1 := Kh hg1
   clear hg1 HV
   by_cases hE : E = 0
   ·have e1 : (E != 0) = false := by simp [hE]
    have HE0 := Kh hE
    clear hE
    go_wp2
    go_roundg (n - (k + 1))
    case measure => have := HGH.out; omega
    case rel => exact ⟨k + 1, by have := HGH.out; omega, by go_num, (patsE_step (by rw [← HN.out]; exact hk) (by rw [← HQ.out, ← HE.out]; exact HE0.out)).trans HPEE.out, HG1.out⟩
   ·have e1 : (E != 0) = true := by rw [bne_iff_ne]; exact hE
    have HE0 := Kh hE
    have HER : Hid (vL letters ps = E) := Kh (by rw [← HPEE.out, patsE_bad (by rw [← HN.out]; exact hk) (by rw [← HQ.out, ← HE.out]; exact hE), ← HQ.out, ← HE.out])
    clear hE
    go_wp2
    refine bodyPost_ret (v := .tuple #[.slice none 0 0, .int .i64 E]) (by simp [results, Try.results56, go_sem]) rfl ?_
    exact ⟨none, 0, 0, by rw [HER.out], HG1.out, .inl (by rw [HER.out]; exact HE0.out)⟩
  ·have hkn : k = n := by have := HGH.out; omega
   have HPZ : Hid (vL letters ps = 0) := Kh (by rw [← HPEE.out]; exact patsE_end (by rw [← HN.out]; exact hk))
   have hkn' : ¬ (k : Int) < n := by omega
   have HW0 : Hid (∀ j, j < n → patW (ps.getD j []) letters = 0) := Kh (fun j hj => by
    have := vK.1 HPZ.out
    rw [zI (by rw [← HN.out]; exact hj)]
    exact this _ (List.getElem_mem _))
   clear hkn HPEE HGH
   obtain ⟨wo, rfl⟩ : ∃ wo : World, wo = wr := ⟨_, rfl⟩
   go_wp2_with (first | (at_make; refine make0N rfl _ _ _ rfl elem_dfa .i64 .i64 _ (n + 1) rfl rfl (by simp) ?m2 ?m3 ?_) | fail)
   case m2 => omega
   case m3 => unfold maxLen; omega
   intro w1 hown1 hg1
   have HO1 : Hid (DsUp w.heap.size w1 (.slice (some ⟨wo.heap.size, 0, none⟩) 0 (n + 1)) []) := Kh ⟨xB hown1 HG.out.size, fun x hx => absurd hx (by simp)⟩
   have HG1 := Kh (zA HG.out hg1 (by simp))
   clear hown1 hg1 hg HG
   go_wp2
   go_loopg [9, 11, 12, 13, 33] n (fun gh v9 s11 s12 s13 i wr => ∃ (k : Nat) (sa : Option Addr) (sc : Nat) (l : List (DfaV × Value × Value)), gh + k = n ∧ i = .int .i64 k ∧ v9 = .slice sa k sc ∧ l.map (·.1) = autD (ps.take k) letters ∧ DsUp w.heap.size wr (.slice sa k sc) l ∧ l.length = k ∧ w.grownBy wr none)
   case atStart => exact ⟨0, _, _, [], rfl, rfl, rfl, rfl, HO1.out, rfl, HG1.out⟩
   case round =>
    clear HO1 HG1
    obtain ⟨k, sa, sc, l, hgh, rfl, rfl, hl1, hds, hll, hg⟩ := hrel
    have HGH := Kh hgh; have HG := Kh hg; have HL1 := Kh hl1; have HDS := Kh hds; have HLL := Kh hll
    clear hgh hl1 hds hll
    by_cases hk : k < n
    ·have hk' : (k : Int) < n := by omega
     have hps := H.out.kept hg (by simp)
     obtain ⟨b, off, cap, e, hbB, hb2, hb3, hall⟩ := hps.at_ (by rw [← HN.out]; omega)
     rw [← HN.out] at e hb2 hall
     simp only [Value.slice.injEq, true_and] at e
     obtain ⟨rfl, rfl⟩ := e
     obtain ⟨ea, ec, c1, hrow, hsz⟩ := hall k hk
     have hp0 := HW0.out k hk
     have HST : Hid (autD (ps.take (k + 1)) letters = autD (ps.take k) letters ++ [xE (ps.getD k []) letters]) := Kh (by
      rw [yH (d := []) (by rw [← HN.out]; exact hk), autD, List.map_append]; rfl)
     obtain ⟨q, hq⟩ : ∃ q, q = ps.getD k [] := ⟨_, rfl⟩
     rw [← hq] at c1 hrow hsz hp0 HST
     have hmx : c ≤ 9223372036854775807 := by unfold maxLen at hb3; omega
     have HV : Hid (∀ W : World, wr.grownBy W none → Calls Try.prog 83 #[.agg #[.slice ea q.length ec], .int .i64 letters] W (DfaErrT W 0 (xE q letters))) := Kh (fun W hW => by
      have := pdfa_anyT B W _ q letters (hrow.kept hW (by simp)) (by have := hW.size; have := HG.out.size; omega) hsz
      rw [hp0] at this
      exact this)
     obtain ⟨ql, hql⟩ : ∃ n, n = q.length := ⟨_, rfl⟩
     obtain ⟨D, hD⟩ : ∃ D, D = xE q letters := ⟨_, rfl⟩
     rw [← hql] at c1 HV
     rw [← hD] at HV HST
     have hzz := hg.size
     clear hps hall hrow hsz hq hg hql hp0 hD
     go_wp2_with fail
     refine (HV.out _ (World.grownBy_alloc wr _ none)).mono ?_
     rintro e w1 ⟨f1, x1, rfl, ht1, hg1⟩
     obtain ⟨fa1, fl1, fc1, na1, nl1, nc1, rfl, rfl⟩ := ht1.shapes
     have HG1 := Kh (zA (World.grownBy_alloc wr (.cells #[.slice ea ql ec] 28) none) hg1 (by simp))
     have HT1 := Kh ht1
     obtain ⟨dl, hdl⟩ : ∃ x, x = D.letters := ⟨_, rfl⟩
     obtain ⟨dst, hdst⟩ : ∃ x, x = D.start := ⟨_, rfl⟩
     rw [← hdl, ← hdst]
     have HDL := Kh hdl; have HDT := Kh hdst
     clear hg1 ht1 HV c1 hdl hdst
     obtain ⟨w2, hw2⟩ : ∃ w2, w2 = w1.alloc (.cells #[.int .i64 dl, .int .i64 dst, .slice fa1 fl1 fc1, .slice na1 nl1 nc1] 42) := ⟨_, rfl⟩
     have hg2 := World.grownBy_alloc w1 (.cells #[.int .i64 dl, .int .i64 dst, .slice fa1 fl1 fc1, .slice na1 nl1 nc1] 42) none
     have hb2 := heap_alloc_new w1 (.cells #[.int .i64 dl, .int .i64 dst, .slice fa1 fl1 fc1, .slice na1 nl1 nc1] 42)
     obtain ⟨R, hR⟩ : ∃ R, R = w1.heap.size := ⟨_, rfl⟩
     rw [← hw2] at hg2 hb2
     rw [← hR] at hb2
     have HT2 := Kh (HT1.out.grow hg2)
     have HG2 := Kh (zA HG1.out hg2 (by simp))
     have HDS2 := Kh (HDS.out.grow HG2.out)
     have HW2 := Kh hw2; have HRE := Kh hR
     obtain ⟨d0, d1, d2, d3⟩ := zG hb2
     have hz2 := HG2.out.size
     clear hw2 hR hg2 hb2 HDS HG1 HT1
     go_upto_region 13 with fail
     rw [← HW2.out, ← HRE.out]
     go_wp2_with (first | (at_builtin; refine app_lit rfl _ _ _ rfl elem_dfa w.heap.size (.slice sa k sc) k (mZ l) rfl ?h0 [.int .i64 dl, .int .i64 dst, .slice fa1 fl1 fc1, .slice na1 nl1 nc1] rfl rfl ?h1 ?c1 ?c2 ?c3 ?_) | fail)
     case h0 => have := HDS2.out.own; rw [HLL.out] at this; exact this
     case h1 => intro u hu; simp at hu; rcases hu with rfl | rfl | rfl | rfl <;> rfl
     case c1 => unfold maxLen; omega
     case c2 => omega
     case c3 => have := HG.out.size; omega
     intro sa' sc' w3 hown3 hg3
     have hd3 := HDS2.out.push (v' := .slice sa' (k + 1) sc') (x := (D, .slice fa1 fl1 fc1, .slice na1 nl1 nc1)) HT2.out (by rw [HLL.out]; unfold dval; rw [← HDL.out, ← HDT.out]; exact hown3) hg3
     have HD3 := Kh hd3
     have HG3 : Hid (w.grownBy w3 none) := Kh (zA (zA HG.out HG2.out (by simp)) hg3 (fun x e => (HDS2.out.own.lt x e).1))
     clear hown3 hg3 hd3
     go_wp2
     go_roundg (n - (k + 1))
     case measure => have := HGH.out; omega
     case rel => exact ⟨k + 1, sa', sc', l ++ [(D, .slice fa1 fl1 fc1, .slice na1 nl1 nc1)], by have := HGH.out; omega, by go_num, rfl, by rw [HST.out, List.map_append, HL1.out]; rfl, HD3.out, by rw [List.length_append, HLL.out]; rfl, HG3.out⟩
    ·have hkn : k = n := by have := HGH.out; omega
     have hk' : ¬ (k : Int) < n := by omega
     have HE : Hid (ps.take k = ps) := Kh (List.take_of_length_le (by rw [← HN.out]; omega))
     rw [HE.out] at HL1
     clear hg hkn
     go_wp2
     refine bodyPost_ret (v := .tuple #[.slice sa k sc, .int .i64 0]) (by simp [results, Try.results56, go_sem]) rfl ?_
     exact ⟨sa, k, sc, by rw [HPZ.out], HG.out, .inr ⟨HPZ.out, by rw [← HL1.out, List.length_map, HLL.out], l, HL1.out, HDS.out⟩⟩
theorem qX : ElemOk Try.prog 26 9 (.string ⟨#[]⟩) 16 := ⟨Try.underlying26, by kernel_rfl, rfl⟩
def strs (bs : List (List Int)) : List Value := bs.map fun l => .string (strOfNums l)
def Fit : List (List UInt8) → List UInt8 → List UInt8 → Prop
 | [], v, r => ∃ q, r = q ++ v
 | u :: us, v, r => ∃ p r', r = p ++ u ++ r' ∧ Fit us v r'
theorem Fit.more : ∀ {us : List (List UInt8)} {v r : List UInt8} (p : List UInt8), Fit us v r → Fit us v (p ++ r)
 | [], v, r, p, ⟨q, h⟩ => ⟨p ++ q, by rw [h, List.append_assoc]⟩
 | u :: us, v, r, p, ⟨q, r', h, hf⟩ => ⟨p ++ q, r', by rw [h]; simp only [List.append_assoc], hf⟩
theorem kJ {r u p q : List UInt8} (h : r = p ++ u ++ q) : Lib.occAt r u p.length = true := by
 subst h
 unfold Lib.occAt
 rw [List.append_assoc, List.drop_left, List.isPrefixOf_iff_prefix]
 exact List.prefix_append _ _
theorem occAt_to {r u : List UInt8} {i : Nat} (h : Lib.occAt r u i = true) (hi : i ≤ r.length) : r = r.take i ++ u ++ r.drop (i + u.length) := by
 unfold Lib.occAt at h
 rw [List.isPrefixOf_iff_prefix] at h
 obtain ⟨t, ht⟩ := h
 have h1 : r = r.take i ++ (u ++ t) := by rw [ht, List.take_append_drop]
 have h2 : r.drop (i + u.length) = t := by rw [← List.drop_drop, ← ht, List.drop_left]
 rw [h2, List.append_assoc]
 exact h1
theorem fit_cut (us : List (List UInt8)) (u v r : List UInt8) : Fit (u :: us) v r ↔ (Lib.cut r u).2.2 = true ∧ Fit us v (Lib.cut r u).2.1 := by
 unfold Lib.cut
 rcases Lib.index_spec r u with ⟨h, hno⟩ | ⟨i, h, hi, hocc, hno⟩
 ·rw [if_neg (by omega)]
  constructor
  ·rintro ⟨p, r', hr, _⟩
   have := hno p.length (by rw [hr]; simp)
   rw [kJ hr] at this
   cases this
  ·rintro ⟨h, _⟩; cases h
 ·rw [if_pos (by omega), h]
  simp only [Int.toNat_natCast, true_and]
  constructor
  ·rintro ⟨p, r', hr, hf⟩
   have hip : i ≤ p.length := by
    rcases Nat.lt_or_ge p.length i with hlt | hge
    ·have := hno p.length hlt
     rw [kJ hr] at this
     cases this
    ·exact hge
   have hd : r.drop (p.length + u.length) = r' := by
    rw [hr, ← List.length_append, List.drop_left]
   have he : r.drop (i + u.length) = (r.drop (i + u.length)).take (p.length - i) ++ r' := by
    have e : r' = (r.drop (i + u.length)).drop (p.length - i) := by rw [List.drop_drop, ← hd]; congr 1; omega
    rw [e, List.take_append_drop]
   rw [he]
   exact hf.more _
  ·intro hf
   exact ⟨_, _, occAt_to hocc hi, hf⟩
theorem lR : ∀ (us : List (List UInt8)) (r v : List UInt8), oA us r v = true ↔ Fit us v r
 | [], r, v => by
  show Lib.hasSuffix r v = true ↔ _
  unfold Lib.hasSuffix
  rw [List.isSuffixOf_iff_suffix]
  exact ⟨fun ⟨q, h⟩ => ⟨q, h.symm⟩, fun ⟨q, h⟩ => ⟨q, h.symm⟩⟩
 | u :: us, r, v => by
  rw [fit_cut]
  unfold oA tT
  by_cases h : (Lib.cut r u).2.2 = true
  ·rw [if_pos h]
   have := lR us (Lib.cut r u).2.1 v
   unfold oA at this
   rw [this]
   exact ⟨fun h' => ⟨h, h'⟩, fun h' => h'.2⟩
  ·rw [if_neg h]
   exact ⟨fun h' => (by cases h'), fun h' => absurd h'.1 h⟩
def sX : List (List UInt8) → List UInt8 → Prop
 | [], _ => False
 | [b], s => s = b
 | b :: c :: rest, s => ∃ r, s = b ++ r ∧ Fit (c :: rest).dropLast ((c :: rest).getLastD []) r
theorem oL : ∀ (bs : List (List UInt8)) (s : List UInt8), xW bs s = true ↔ sX bs s
 | [], s => by simp [xW, sX]
 | [b], s => by simp [xW, sX]
 | b :: c :: rest, s => by
  simp only [xW, sX, Bool.and_eq_true, lR]
  unfold Lib.hasPrefix
  rw [List.isPrefixOf_iff_prefix]
  constructor
  ·rintro ⟨⟨t, ht⟩, hf⟩
   refine ⟨t, ht.symm, ?_⟩
   rwa [← ht, List.drop_left] at hf
  ·rintro ⟨r, rfl, hf⟩
   exact ⟨List.prefix_append _ _, by rwa [List.drop_left]⟩
theorem okFrom_all {n : Nat} {letters : Int} : ∀ (bs : List ByteArray) (i : Nat), (∀ j (h : j < bs.length), vS n letters (i + j) bs[j] = true) → wE n letters i bs = true
 | [], _, _ => rfl
 | b :: bs, i, h => by
  have h1 := h 0 (by simp)
  have h2 := okFrom_all bs (i + 1) fun j hj => by
   have := h (j + 1) (by simpa using hj)
   rwa [show i + 1 + j = i + (j + 1) by omega]
  simp only [wE]
  rw [h2, Bool.and_true]
  simpa using h1
def letU (c : UInt8) : Nat := c.toNat - 97
theorem letU_inj {x y : UInt8} (hx : 97 ≤ x.toNat) (hy : 97 ≤ y.toNat) (h : letU x = letU y) : x = y := by
 unfold letU at h
 exact UInt8.toNat_inj.1 (by omega)
def okU (l : List UInt8) : Prop := ∀ x ∈ l, 97 ≤ x.toNat
theorem oC : ∀ {l m : List UInt8}, okU l → okU m → l.map letU = m.map letU → l = m
 | [], [], _, _, _ => rfl
 | [], y :: m, _, _, h => by simp at h
 | x :: l, [], _, _, h => by simp at h
 | x :: l, y :: m, hl, hm, h => by
  simp only [List.map_cons, List.cons.injEq] at h
  rw [letU_inj (hl x (by simp)) (hm y (by simp)) h.1, oC (fun z hz => hl z (List.mem_cons_of_mem _ hz)) (fun z hz => hm z (List.mem_cons_of_mem _ hz)) h.2]
def TlU : List (List UInt8) → List UInt8 → Prop
 | [], r => r = []
 | u :: us, r => ∃ p r', r = p ++ u ++ r' ∧ TlU us r'
theorem fit_tl : ∀ (us : List (List UInt8)) (v r : List UInt8), Fit us v r ↔ TlU (us ++ [v]) r
 | [], v, r => ⟨fun ⟨q, h⟩ => ⟨q, [], by simp [h], rfl⟩, fun ⟨p, r', h, h'⟩ => ⟨p, by rw [h, show r' = [] from h']; simp⟩⟩
 | u :: us, v, r => by
  constructor
  ·rintro ⟨p, r', h, hf⟩; exact ⟨p, r', h, (fit_tl us v r').1 hf⟩
  ·rintro ⟨p, r', h, hf⟩; exact ⟨p, r', h, (fit_tl us v r').2 hf⟩
theorem tl_map : ∀ {us : List (List UInt8)} {r : List UInt8}, (∀ u ∈ us, okU u) → okU r → (TlU us r ↔ TlN (us.map (List.map letU)) (r.map letU))
 | [], r, _, _ => by
  show r = [] ↔ r.map letU = []
  rw [List.map_eq_nil_iff]
 | u :: us, r, hu, hr => by
  constructor
  ·rintro ⟨p, r', rfl, h⟩
   refine ⟨p.map letU, r'.map letU, by simp, (tl_map (fun x hx => hu x (List.mem_cons_of_mem _ hx)) (fun x hx => hr x (List.mem_append_right _ hx))).1 h⟩
  ·rintro ⟨p, r', h, ht⟩
   obtain ⟨a, c, rfl, h1, rfl⟩ := List.map_eq_append_iff.1 h
   obtain ⟨a1, b1, rfl, rfl, h2⟩ := List.map_eq_append_iff.1 h1
   have hb : b1 = u := oC (fun x hx => hr x (by simp [hx])) (hu u (by simp)) h2
   subst hb
   exact ⟨a1, c, rfl, (tl_map (fun x hx => hu x (List.mem_cons_of_mem _ hx)) (fun x hx => hr x (List.mem_append_right _ hx))).2 ht⟩
theorem pat_mapU : ∀ {bs : List (List UInt8)} {s : List UInt8}, (∀ u ∈ bs, okU u) → okU s → (sX bs s ↔ PatN (bs.map (List.map letU)) (s.map letU))
 | [], s, _, _ => Iff.rfl
 | [b], s, hb, hs => by
  show s = b ↔ ∃ r, s.map letU = b.map letU ++ r ∧ r = []
  constructor
  ·rintro rfl; exact ⟨[], by simp, rfl⟩
  ·rintro ⟨r, h, rfl⟩
   exact oC hs (hb b (by simp)) (by simpa using h)
 | b :: c :: rest, s, hb, hs => by
  have hl : (c :: rest) = (c :: rest).dropLast ++ [(c :: rest).getLastD []] := by
   rw [List.getLastD_eq_getLast?, List.getLast?_eq_some_getLast (List.cons_ne_nil c rest)]
   exact (List.dropLast_concat_getLast (List.cons_ne_nil c rest)).symm
  have hbr : ∀ u ∈ c :: rest, okU u := fun x hx => hb x (List.mem_cons_of_mem _ hx)
  constructor
  ·rintro ⟨r, rfl, hf⟩
   refine ⟨r.map letU, by simp, ?_⟩
   have := (fit_tl _ _ _).1 hf
   rw [← hl] at this
   exact (tl_map hbr (fun x hx => hs x (List.mem_append_right _ hx))).1 this
  ·rintro ⟨r, h, ht⟩
   obtain ⟨a, r', rfl, h1, rfl⟩ := List.map_eq_append_iff.1 h
   have ha : a = b := oC (fun x hx => hs x (List.mem_append_left _ hx)) (hb b (by simp)) h1
   subst ha
   refine ⟨r', rfl, (fit_tl _ _ _).2 ?_⟩
   rw [← hl]
   exact (tl_map hbr (fun x hx => hs x (List.mem_append_right _ hx))).2 ht
theorem lettersOf_map (s : ByteArray) : zK s = s.data.toList.map letU := rfl
theorem nP {s : ByteArray} {k : Int} (h : zU s k = true) : okU s.data.toList := fun x hx => by
 simp only [zU, Bool.and_eq_true, List.all_eq_true] at h
 have := h.2 x hx
 unfold rH at this
 rw [decide_eq_true_eq] at this
 omega
theorem rR {s : ByteArray} {k l : Int} (h : zU s k = true) (hkl : k ≤ l) (hl : l ≤ 6) : zU s l = true := by
 simp only [zU, Bool.and_eq_true, decide_eq_true_eq, List.all_eq_true] at h ⊢
 refine ⟨⟨by omega, hl, h.1.2.2⟩, fun c hc => ?_⟩
 have := h.2 c hc
 unfold rH at this ⊢
 rw [decide_eq_true_eq] at this ⊢
 omega
theorem pB {bs : List ByteArray} {k l : Int} (h : yJ bs k = 0) (hkl : k ≤ l) (hl : l ≤ 6) : yJ bs l = 0 := by
 obtain ⟨h1, h2, h3, h4, h5, h6⟩ := wD h
 rw [oM (by omega) (by omega) (by omega) (by omega) (by omega), if_pos]
 refine okFrom_all _ _ fun j hj => ?_
 have := pY h6 j hj
 unfold vS at this ⊢
 rw [Bool.and_eq_true] at this ⊢
 exact ⟨rR this.1 hkl hl, this.2⟩
theorem match_pat {bs : List ByteArray} {s : ByteArray} {k : Nat} (h : yJ bs (k : Int) = 0) (hs : zU s (k : Int) = true) : yG bs s = true ↔ PatN (bs.map zK) (zK s) := by
 obtain ⟨h1, h6, h0, h8, ht, hw, _⟩ := patOk h
 rw [yG, pB h h6 (Int.le_refl 6), rR hs h6 (Int.le_refl 6)]
 simp only [decide_true, Bool.true_and]
 rw [oL, pat_mapU (fun u hu => by
  obtain ⟨b, hb, rfl⟩ := List.mem_map.1 hu
  obtain ⟨i, hi, rfl⟩ := List.getElem_of_mem hb
  exact nP (hw i hi)) (nP hs), List.map_map]
 rfl
theorem pat_nonempty {bs : List ByteArray} {k : Int} (h : yJ bs k = 0) : ∃ b us, bs.map zK = b :: us ∧ ∀ u ∈ us.dropLast, u ≠ [] := by
 obtain ⟨h1, h6, h0, h8, ht, hw, hne⟩ := patOk h
 match bs, h0 with
 | b :: rest, _ =>
  refine ⟨zK b, rest.map zK, rfl, fun u hu => ?_⟩
  obtain ⟨i, hi, rfl⟩ := List.getElem_of_mem hu
  have hi2 : i + 1 < rest.length := by
   rw [List.length_dropLast, List.length_map] at hi; omega
  have := hne (i + 1) (by simp; omega) (by omega) (by simp; omega)
  simp only [List.getElem_cons_succ] at this
  intro e
  rw [List.getElem_dropLast, List.getElem_map] at e
  have e2 := congrArg List.length e
  rw [yP, List.length_nil] at e2
  omega
theorem mS {bs : List ByteArray} {s : ByteArray} {k : Nat} (h : yJ bs (k : Int) = 0) (hs : zU s (k : Int) = true) : acc (xE bs (k : Int)) (st0 (xE bs (k : Int))) (zK s) = yG bs s := by
 obtain ⟨h1, h6, h0, h8, ht, hw, _⟩ := patOk h
 have hk1 : 1 ≤ k := by omega
 have hk6 : k ≤ 6 := by omega
 obtain ⟨b, us, hb, hne⟩ := pat_nonempty h
 have hwo := (uA hs).1
 have hvd := mU hk1 hk6 h0 ht
 rw [xE, if_pos (wO.2 h), Int.toNat_natCast]
 show acc (minD (patD k (bs.map zK)) k) 0 (zK s) = _
 rw [min_acc hvd hwo]
 rw [Bool.eq_iff_iff, match_pat h hs, hb]
 exact pat_acc hne hwo
theorem patDfa_vd {bs : List ByteArray} {k : Nat} (h : yJ bs (k : Int) = 0) : ∃ n, n ≤ 66 ∧ VD (xE bs (k : Int)) n k := by
 obtain ⟨h1, h6, h0, h8, ht, hw, _⟩ := patOk h
 have hvd := mU (k := k) (by omega) (by omega) h0 ht
 have hl := pJ (k := k) h0 ht
 rw [xE, if_pos (wO.2 h), Int.toNat_natCast]
 exact ⟨_, Nat.le_trans (minN_le hvd) hl.2, lQ hvd⟩
end Go.Proofs.Ytjfdomfendbhfaa
namespace Go.Proofs.Ytjfdomfendbhfaa
def lets (w : List Nat) : List Int := w.map fun (a : Nat) => 97 + (a : Int)
end Go.Proofs.Ytjfdomfendbhfaa
