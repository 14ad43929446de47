/- Part 44 of the proof: Comp, Less, FamOrd. -/
import Derived.Test.YtjfdomfendbhfaaQb43
set_option linter.unusedVariables false
set_option linter.unusedSimpArgs false
namespace Go.Proofs.Ytjfdomfendbhfaa
open Go.RowKit
def lexZ : List Int → List Int → Bool
 | _, [] => false
 | [], _ :: _ => true
 | a :: x, b :: y => decide (a < b) || (decide (a = b) && lexZ x y)
def tY (u v : List Int) : Bool := decide (u.length < v.length) || (decide (u.length = v.length) && lexZ u v)
theorem lexZ_total : ∀ u v : List Int, u.length = v.length → u ≠ v → lexZ u v = true ∨ lexZ v u = true
 | [], [], _, h => absurd rfl h
 | [], _ :: _, h, _ => by simp at h
 | _ :: _, [], h, _ => by simp at h
 | a :: x, b :: y, hl, hne => by
  simp only [lexZ, Bool.or_eq_true, Bool.and_eq_true, decide_eq_true_eq]
  rcases Int.lt_trichotomy a b with h | h | h
  ·exact .inl (.inl h)
  ·subst h
   rcases lexZ_total x y (by simpa using hl) (fun e => hne (by rw [e])) with h | h
   ·exact .inl (.inr ⟨rfl, h⟩)
   ·exact .inr (.inr ⟨rfl, h⟩)
  ·exact .inr (.inl h)
theorem lexZ_trans : ∀ u v w : List Int, lexZ u v = true → lexZ v w = true → lexZ u w = true
 | _, [], _, h, _ => by cases ‹List Int› <;> simp [lexZ] at h
 | _, _ :: _, [], _, h => by simp [lexZ] at h
 | [], _ :: _, _ :: _, _, _ => rfl
 | a :: x, b :: y, c :: z, h1, h2 => by
  simp only [lexZ, Bool.or_eq_true, Bool.and_eq_true, decide_eq_true_eq] at h1 h2 ⊢
  rcases h1 with h1 | ⟨rfl, h1⟩
  ·rcases h2 with h2 | ⟨rfl, h2⟩
   ·exact .inl (by omega)
   ·exact .inl h1
  ·rcases h2 with h2 | ⟨rfl, h2⟩
   ·exact .inl h2
   ·exact .inr ⟨rfl, lexZ_trans x y z h1 h2⟩
theorem jT : ∀ u : List Int, lexZ u u = false
 | [] => rfl
 | a :: x => by simp [lexZ, jT x]
theorem rI (u : List Int) : tY u u = false := by simp [tY, jT]
theorem lessW_total {u v : List Int} (h : u ≠ v) : tY u v = true ∨ tY v u = true := by
 simp only [tY, Bool.or_eq_true, Bool.and_eq_true, decide_eq_true_eq]
 rcases Nat.lt_trichotomy u.length v.length with h1 | h1 | h1
 ·exact .inl (.inl h1)
 ·rcases lexZ_total u v h1 h with h2 | h2
  ·exact .inl (.inr ⟨h1, h2⟩)
  ·exact .inr (.inr ⟨h1.symm, h2⟩)
 ·exact .inr (.inl h1)
theorem lessW_trans {u v w : List Int} (h1 : tY u v = true) (h2 : tY v w = true) : tY u w = true := by
 simp only [tY, Bool.or_eq_true, Bool.and_eq_true, decide_eq_true_eq] at h1 h2 ⊢
 rcases h1 with h1 | ⟨e1, h1⟩
 ·rcases h2 with h2 | ⟨e2, h2⟩
  ·exact .inl (by omega)
  ·exact .inl (by omega)
 ·rcases h2 with h2 | ⟨e2, h2⟩
  ·exact .inl (by omega)
  ·exact .inr ⟨by omega, lexZ_trans u v w h1 h2⟩
def yT : List (List Int) → List (List Int) → Bool
 | [], _ => false
 | _ :: _, [] => false
 | a :: p, b :: q => tY a b || (decide (a = b) && yT p q)
def xS (p q : List (List Int)) : Bool := decide (p.length < q.length) || (decide (p.length = q.length) && yT p q)
theorem mI : ∀ p q : List (List Int), p.length = q.length → p ≠ q → yT p q = true ∨ yT q p = true
 | [], [], _, h => absurd rfl h
 | [], _ :: _, h, _ => by simp at h
 | _ :: _, [], h, _ => by simp at h
 | a :: p, b :: q, hl, hne => by
  simp only [yT, Bool.or_eq_true, Bool.and_eq_true, decide_eq_true_eq]
  by_cases e : a = b
  ·subst e
   rcases mI p q (by simpa using hl) (fun e => hne (by rw [e])) with h | h
   ·exact .inl (.inr ⟨rfl, h⟩)
   ·exact .inr (.inr ⟨rfl, h⟩)
  ·rcases lessW_total e with h | h
   ·exact .inl (.inl h)
   ·exact .inr (.inl h)
theorem mH : ∀ p q r : List (List Int), yT p q = true → yT q r = true → yT p r = true
 | [], _, _, h, _ => by simp [yT] at h
 | _ :: _, [], _, h, _ => by simp [yT] at h
 | _ :: _, _ :: _, [], _, h => by simp [yT] at h
 | a :: p, b :: q, c :: r, h1, h2 => by
  simp only [yT, Bool.or_eq_true, Bool.and_eq_true, decide_eq_true_eq] at h1 h2 ⊢
  rcases h1 with h1 | ⟨rfl, h1⟩
  ·rcases h2 with h2 | ⟨rfl, h2⟩
   ·exact .inl (lessW_trans h1 h2)
   ·exact .inl h1
  ·rcases h2 with h2 | ⟨rfl, h2⟩
   ·exact .inl h2
   ·exact .inr ⟨rfl, mH p q r h1 h2⟩
theorem oS : ∀ p : List (List Int), yT p p = false
 | [] => rfl
 | a :: p => by simp [yT, rI, oS p]
theorem rJ (p : List (List Int)) : xS p p = false := by simp [xS, oS]
theorem lessP_total {p q : List (List Int)} (h : p ≠ q) : xS p q = true ∨ xS q p = true := by
 simp only [xS, Bool.or_eq_true, Bool.and_eq_true, decide_eq_true_eq]
 rcases Nat.lt_trichotomy p.length q.length with h1 | h1 | h1
 ·exact .inl (.inl h1)
 ·rcases mI p q h1 h with h2 | h2
  ·exact .inl (.inr ⟨h1, h2⟩)
  ·exact .inr (.inr ⟨h1.symm, h2⟩)
 ·exact .inr (.inl h1)
theorem jU {p q r : List (List Int)} (h1 : xS p q = true) (h2 : xS q r = true) : xS p r = true := by
 simp only [xS, Bool.or_eq_true, Bool.and_eq_true, decide_eq_true_eq] at h1 h2 ⊢
 rcases h1 with h1 | ⟨e1, h1⟩
 ·rcases h2 with h2 | ⟨e2, h2⟩
  ·exact .inl (by omega)
  ·exact .inl (by omega)
 ·rcases h2 with h2 | ⟨e2, h2⟩
  ·exact .inl (by omega)
  ·exact .inr ⟨by omega, mH p q r h1 h2⟩
theorem lessP_asymm {p q : List (List Int)} (h : xS p q = true) : xS q p = false := by
 cases e : xS q p with
 | false => rfl
 | true => have := jU h e; rw [rJ] at this; cases this
theorem lessP_ext : ∀ {l m : List (List (List Int))}, l.Pairwise (fun a b => xS a b = true) → m.Pairwise (fun a b => xS a b = true) → (∀ a, a ∈ l ↔ a ∈ m) → l = m
 | [], [], _, _, _ => rfl
 | [], b :: m, _, _, h => by have := (h b).2 (by simp); simp at this
 | a :: l, [], _, _, h => by have := (h a).1 (by simp); simp at this
 | a :: l, b :: m, hl, hm, h => by
  have hl' := List.pairwise_cons.1 hl
  have hm' := List.pairwise_cons.1 hm
  have e : a = b := by
   rcases List.mem_cons.1 ((h a).1 (by simp)) with h1 | h1
   ·exact h1
   ·rcases List.mem_cons.1 ((h b).2 (by simp)) with h2 | h2
    ·exact h2.symm
    ·have h3 := hl'.1 b h2
     have h4 := lessP_asymm (hm'.1 a h1)
     rw [h3] at h4; cases h4
  subst e
  congr 1
  refine lessP_ext hl'.2 hm'.2 fun c => ?_
  constructor
  ·intro hc
   have h1 := hl'.1 c hc
   rcases List.mem_cons.1 ((h c).1 (List.mem_cons_of_mem _ hc)) with e | e
   ·rw [e, rJ] at h1; cases h1
   ·exact e
  ·intro hc
   have h1 := hm'.1 c hc
   rcases List.mem_cons.1 ((h c).2 (List.mem_cons_of_mem _ hc)) with e | e
   ·rw [e, rJ] at h1; cases h1
   ·exact e
def okW (u : List Int) : Prop := ∀ x ∈ u, okNum 6 x
theorem u8_lt {a b : Int} (ha : okNum 6 a) (hb : okNum 6 b) : (UInt8.ofNat a.toNat < UInt8.ofNat b.toNat ↔ a < b) ∧ (UInt8.ofNat a.toNat = UInt8.ofNat b.toNat ↔ a = b) := by
 obtain ⟨a1, a2⟩ := ha
 obtain ⟨b1, b2⟩ := hb
 have e1 : (UInt8.ofNat a.toNat).toNat = a.toNat := by rw [UInt8.toNat_ofNat']; omega
 have e2 : (UInt8.ofNat b.toNat).toNat = b.toNat := by rw [UInt8.toNat_ofNat']; omega
 refine ⟨by rw [UInt8.lt_iff_toNat_lt, e1, e2]; omega, ⟨fun h => ?_, fun h => by rw [h]⟩⟩
 have := congrArg UInt8.toNat h
 rw [e1, e2] at this; omega
theorem bytes_lex : ∀ u v : List Int, okW u → okW v → Op.bytesLess ((u.map fun n => UInt8.ofNat n.toNat)) ((v.map fun n => UInt8.ofNat n.toNat)) = lexZ u v
 | [], [], _, _ => rfl
 | [], _ :: _, _, _ => rfl
 | _ :: _, [], _, _ => rfl
 | a :: x, b :: y, hu, hv => by
  have ih := bytes_lex x y (fun c hc => hu c (by simp [hc])) (fun c hc => hv c (by simp [hc]))
  obtain ⟨h1, h2⟩ := u8_lt (hu a (by simp)) (hv b (by simp))
  simp only [List.map_cons, Op.bytesLess, lexZ]
  rw [ih, decide_eq_decide.2 h1]
  congr 1
  congr 1
  rw [Bool.eq_iff_iff, beq_iff_eq, decide_eq_true_eq]; exact h2
theorem bytes_eq : ∀ u v : List Int, okW u → okW v → ((u.map fun n => UInt8.ofNat n.toNat) = (v.map fun n => UInt8.ofNat n.toNat) ↔ u = v)
 | [], [], _, _ => by simp
 | [], _ :: _, _, _ => by simp
 | _ :: _, [], _, _ => by simp
 | a :: x, b :: y, hu, hv => by
  have ih := bytes_eq x y (fun c hc => hu c (by simp [hc])) (fun c hc => hv c (by simp [hc]))
  obtain ⟨_, h2⟩ := u8_lt (hu a (by simp)) (hv b (by simp))
  simp only [List.map_cons, List.cons.injEq]
  rw [h2, ih]
def cmpI (u v : List Int) : Int := if tY u v then -1 else if u = v then 0 else 1
set_option maxHeartbeats 800000 in
theorem compare_any (u v : List Int) (w : World) (hu : u.length ≤ 1000) (hv : v.length ≤ 1000) (ou : okW u) (ov : okW v) :
  Calls Try.prog 98 #[.string (strOfNums u), .string (strOfNums v)] w fun e w' => e = .returned (.int .i64 (cmpI u v)) ∧ w = w' := by
 have h1 := strOfNums_size u
 have h2 := strOfNums_size v
 have hb : Op.bytesLess (strOfNums u).toList (strOfNums v).toList = lexZ u v := by rw [ByteArray.toList_eq, ByteArray.toList_eq, strOfNums_data, strOfNums_data]; exact bytes_lex u v ou ov
 have he : ((strOfNums u).toList == (strOfNums v).toList) = decide (u = v) := by
  rw [ByteArray.toList_eq, ByteArray.toList_eq, strOfNums_data, strOfNums_data, Bool.eq_iff_iff, beq_iff_eq, decide_eq_true_eq]; exact bytes_eq u v ou ov
 obtain ⟨lb, hlb⟩ : ∃ lb, lb = lexZ u v := ⟨_, rfl⟩
 obtain ⟨eb, heb⟩ : ∃ eb, eb = decide (u = v) := ⟨_, rfl⟩
 have HC : Hid (cmpI u v = if decide (u.length < v.length) || (decide (u.length = v.length) && lb) then -1 else if eb then 0 else 1) := Kh (by
  rw [cmpI, tY, hlb, heb]; simp)
 rw [← hlb] at hb
 rw [← heb] at he
 have HEQ : Hid (eb = true → u.length = v.length) := Kh (fun h => by rw [heb, decide_eq_true_eq] at h; rw [h])
 clear hlb heb
 by_cases hlt : u.length < v.length
 ·go_enter Try.func98, Try.ntmps98
  go_wp2
  go_ret
  exact ⟨yE (by rw [HC.out]; simp [hlt]), rfl⟩
 ·by_cases heq : u.length = v.length
  ·cases lb <;> cases eb
   all_goals
    go_enter Try.func98, Try.ntmps98
    go_wp2
    go_ret
    exact ⟨yE (by rw [HC.out]; simp [heq]), rfl⟩
  ·have heb2 : eb = false := by
    cases eb with
    | false => rfl
    | true => exact absurd (HEQ.out rfl) heq
   subst heb2
   go_enter Try.func98, Try.ntmps98
   go_wp2
   go_ret
   exact ⟨yE (by rw [HC.out]; simp [hlt, heq]), rfl⟩
theorem blk_drop {p q : List (List Int)} {k : Nat} (hp : k < p.length) (hq : k < q.length) : yT (p.drop k) (q.drop k) = (tY p[k] q[k] || (decide (p[k] = q[k]) && yT (p.drop (k + 1)) (q.drop (k + 1)))) := by
 rw [List.drop_eq_getElem_cons hp, List.drop_eq_getElem_cons hq]; rfl
theorem cmpI_cases (u v : List Int) : (cmpI u v = -1 ∧ tY u v = true) ∨ (cmpI u v = 0 ∧ u = v ∧ tY u v = false) ∨ (cmpI u v = 1 ∧ tY u v = false ∧ u ≠ v) := by
 unfold cmpI
 cases h : tY u v with
 | true => exact .inl ⟨by simp, rfl⟩
 | false =>
  by_cases e : u = v
  ·exact .inr (.inl ⟨by simp [e], e, rfl⟩)
  ·exact .inr (.inr ⟨by simp [e], rfl, e⟩)
theorem row_cellS {b off : Nat} {w : World} {ls : List (List Int)} (hra : vU w b off (strs ls)) {i : Nat} (hi : i < ls.length) : w.cell? ⟨b, off + i, none⟩ = some (.string (strOfNums ls[i])) := hra.map i hi
set_option maxRecDepth 100000 in
set_option maxHeartbeats 1000000 in
theorem qR (B1 B2 : Nat) (w : World) (v1 v2 : Value) (p q : List (List Int)) (h1 : Row B1 w v1 (strs p)) (h2 : Row B2 w v2 (strs q)) (hp : ∀ u ∈ p, okW u ∧ u.length ≤ 8) (hq : ∀ u ∈ q, okW u ∧ u.length ≤ 8) (hpl : p.length ≤ 100) (hql : q.length ≤ 100) :
  Calls Try.prog 78 #[.agg #[v1], .agg #[v2]] w fun e w' => e = .returned (.bool (xS p q)) ∧ w.grownBy w' none := by
 have H1 := Kh h1; have H2 := Kh h2; have HP := Kh hp; have HQ := Kh hq
 obtain ⟨a1, c1, rfl⟩ := h1.shape
 obtain ⟨a2, c2, rfl⟩ := h2.shape
 rw [xG] at H1 H2 ⊢
 rw [xG]
 clear h1 h2 hp hq
 obtain ⟨P, hP⟩ : ∃ P, P = w.heap.size := ⟨_, rfl⟩
 obtain ⟨wA, hWA⟩ : ∃ wA, wA = (w.alloc (.cells #[.slice a1 p.length c1] 28)).alloc (.cells #[.slice a2 q.length c2] 28) := ⟨_, rfl⟩
 have b1 := zB (heap_alloc_new w (.cells #[.slice a1 p.length c1] 28)) (World.grownBy_alloc _ (.cells #[.slice a2 q.length c2] 28) none) (by simp)
 have b2 := heap_alloc_new (w.alloc (.cells #[.slice a1 p.length c1] 28)) (.cells #[.slice a2 q.length c2] 28)
 rw [zJ] at b2
 rw [← hWA, ← hP] at b1 b2
 have hgA : w.grownBy wA none := by rw [hWA]; exact vG (World.grownBy_alloc w _ none) _
 have HGA := Kh hgA; have HWA := Kh hWA; have HPE := Kh hP; have HB1 := Kh b1; have HB2 := Kh b2
 clear hgA hWA hP b1 b2
 go_enter Try.func78, Try.ntmps78
 go_upto_region 1 with fail
 rw [← HWA.out, ← HPE.out]
 have k1 := zO HB1.out 0 (by simp)
 have k2 := zO HB2.out 0 (by simp)
 simp only [List.getElem_toArray, List.getElem_cons_zero] at k1 k2
 by_cases hl : p.length = q.length
 ·have hne : ((p.length : Int) != (q.length : Int)) = false := by rw [hl]; simp
  go_wp2
  go_loopg [24] p.length (fun gh i wr => ∃ (k m : Nat), gh + k = p.length ∧ i = .int .i64 (k : Int) ∧ Hid (xS p q = yT (p.drop k) (q.drop k)) ∧ wr = wA.drewN m)
  case atStart => exact ⟨0, 0, rfl, rfl, Kh (by simp [xS, hl]), rfl⟩
  case round =>
   obtain ⟨k, m, hgh, rfl, hbl, rfl⟩ := hrel
   have HGH := Kh hgh
   clear hgh
   by_cases hk : k < p.length
   ·have hk' : (k : Int) < p.length := by omega
    have hkq : k < q.length := by omega
    have hkq' : (k : Int) < q.length := by omega
    obtain ⟨b1, o1, d1, e1, _, f1, g1, r1⟩ := (H1.out.kept HGA.out (by simp)).some_ (by rw [xG]; omega)
    obtain ⟨b2, o2, d2, e2, _, f2, g2, r2⟩ := (H2.out.kept HGA.out (by simp)).some_ (by rw [xG]; omega)
    rw [xG] at e1 f1 e2 f2
    simp only [Value.slice.injEq] at e1 e2
    obtain ⟨rfl, _, rfl⟩ := e1
    obtain ⟨rfl, _, rfl⟩ := e2
    have x1 := row_cellS r1 hk
    have x2 := row_cellS r2 hkq
    have hm1 : c1 ≤ 9223372036854775807 := by unfold maxLen at g1; omega
    have hm2 : c2 ≤ 9223372036854775807 := by unfold maxLen at g2; omega
    have hu := HP.out _ (List.getElem_mem hk)
    have hv := HQ.out _ (List.getElem_mem hkq)
    have hst := blk_drop hk hkq
    obtain ⟨u, hu2⟩ : ∃ u, u = p[k] := ⟨_, rfl⟩
    obtain ⟨v, hv2⟩ : ∃ v, v = q[k] := ⟨_, rfl⟩
    rw [← hu2] at x1 hu hst
    rw [← hv2] at x2 hv hst
    have HCM : ∀ W : World, Hid (Calls Try.prog 98 #[.string (strOfNums u), .string (strOfNums v)] W fun e w' => e = .returned (.int .i64 (cmpI u v)) ∧ W = w') := fun W => Kh (compare_any u v W (by omega) (by omega) hu.1 hv.1)
    rcases cmpI_cases u v with ⟨hc, hw⟩ | ⟨hc, he, hw⟩ | ⟨hc, hw, he⟩
    ·have HR : Hid (xS p q = true) := Kh (by rw [hbl.out, hst, hw]; rfl)
     rw [hc] at HCM
     clear r1 r2 g1 g2 hu hv hst hu2 hv2 hw hc
     go_wp2
     go_quiet ((go_at_call 98; exact tB (HCM _).out))
     go_wp2
     go_ret
     exact ⟨zZ HR.out.symm, zA HGA.out (zT wA _ none) (by simp)⟩
    ·have HR : Hid (xS p q = yT (p.drop (k + 1)) (q.drop (k + 1))) := Kh (by rw [hbl.out, hst, hw, decide_eq_true he]; rfl)
     rw [hc] at HCM
     clear r1 r2 g1 g2 hu hv hst hu2 hv2 hw hc he
     go_wp2
     go_quiet ((go_at_call 98; exact tB (HCM _).out))
     go_wp2
     go_roundg (p.length - (k + 1))
     case measure => have := HGH.out; omega
     case rel => exact ⟨k + 1, _, by omega, by go_num, HR, rfl⟩
    ·have HR : Hid (xS p q = false) := Kh (by rw [hbl.out, hst, hw, decide_eq_false he]; rfl)
     rw [hc] at HCM
     clear r1 r2 g1 g2 hu hv hst hu2 hv2 hw hc he
     go_wp2
     go_quiet ((go_at_call 98; exact tB (HCM _).out))
     go_wp2
     go_ret
     exact ⟨zZ HR.out.symm, zA HGA.out (zT wA _ none) (by simp)⟩
   ·have HR : Hid (xS p q = false) := Kh (by rw [hbl.out, List.drop_of_length_le (by omega)]; rfl)
    go_wp2
    go_ret
    exact ⟨zZ HR.out.symm, zA HGA.out (zT wA _ none) (by simp)⟩
 ·have hne : ((p.length : Int) != (q.length : Int)) = true := by rw [bne_iff_ne]; omega
  have HR : Hid (xS p q = decide (p.length < q.length)) := Kh (by
   rw [xS, decide_eq_false hl, Bool.false_and, Bool.or_false])
  go_wp2
  go_ret
  exact ⟨zZ (by rw [HR.out]), HGA.out⟩
end Go.Proofs.Ytjfdomfendbhfaa
namespace Go.Proofs.Ytjfdomfendbhfaa
theorem lexZ_same : ∀ (w x y : List Int), lexZ (w ++ x) (w ++ y) = lexZ x y
 | [], _, _ => rfl
 | a :: w, x, y => by simp [lexZ, lexZ_same w x y]
theorem lexZ_front : ∀ (w v x y : List Int), w.length = v.length → lexZ w v = true → lexZ (w ++ x) (v ++ y) = true
 | [], [], _, _, _, h => by simp [lexZ] at h
 | [], _ :: _, _, _, h, _ => by simp at h
 | _ :: _, [], _, _, h, _ => by simp at h
 | a :: w, b :: v, x, y, hl, h => by
  simp only [List.cons_append, lexZ, Bool.or_eq_true, Bool.and_eq_true, decide_eq_true_eq] at h ⊢
  rcases h with h | ⟨rfl, h⟩
  ·exact .inl h
  ·exact .inr ⟨rfl, lexZ_front w v x y (by simpa using hl) h⟩
theorem block_sorted (letters : Nat) (w : List Int) : (block letters w 0).Pairwise (fun a b => lexZ a b = true) := by
 rw [block, List.pairwise_map]
 refine List.Pairwise.imp ?_ (List.pairwise_lt_range' (s := 0) (n := letters - 0) (step := 1) )
 intro a b h
 rw [lexZ_same]
 simp [lexZ]; omega
theorem jS {letters : Nat} {w x : List Int} (h : x ∈ block letters w 0) : ∃ c : Int, x = w ++ [c] := by
 obtain ⟨c, _, rfl⟩ := List.mem_map.1 h
 exact ⟨_, rfl⟩
theorem lex_sorted (letters : Nat) : ∀ n, (lex letters n).Pairwise (fun a b => lexZ a b = true)
 | 0 => by simp [lex]
 | n + 1 => by
  rw [lex_succ, List.pairwise_flatMap]
  refine ⟨fun w _ => block_sorted letters w, ?_⟩
  have ih := lex_sorted letters n
  refine List.Pairwise.imp_of_mem ?_ ih
  intro a b ha hb hab x hx y hy
  obtain ⟨c, rfl⟩ := jS hx
  obtain ⟨d, rfl⟩ := jS hy
  exact lexZ_front a b [c] [d] (by rw [(sO ha).1, (sO hb).1]) hab
def kD (l : List (List Int)) : Prop := l.Pairwise (fun a b => tY a b = true)
def wS (l : List (List (List Int))) : Prop := l.Pairwise (fun a b => xS a b = true)
theorem oT (letters : Nat) : ∀ n, kD (upTo letters n)
 | 0 => by simp [upTo, kD]
 | n + 1 => by
  rw [yU, kD, List.pairwise_append]
  refine ⟨oT letters n, ?_, fun a ha b hb => ?_⟩
  ·refine List.Pairwise.imp_of_mem ?_ (lex_sorted letters n)
   intro a b ha hb h
   simp only [tY, Bool.or_eq_true, Bool.and_eq_true, decide_eq_true_eq]
   exact .inr ⟨by rw [(sO ha).1, (sO hb).1], h⟩
  ·simp only [tY, Bool.or_eq_true, decide_eq_true_eq]
   exact .inl (by rw [(sO hb).1]; exact oU ha)
theorem kR (letters n : Nat) : ∃ r, upTo letters (n + 1) = [] :: r ∧ ∀ u ∈ r, u ≠ [] := by
 have e := nS letters n
 refine ⟨_, e, fun u hu => ?_⟩
 obtain ⟨w, _, hx⟩ := List.mem_flatMap.1 hu
 obtain ⟨c, rfl⟩ := jS hx
 simp
def mono (f : List Int → List (List Int)) : Prop := ∀ u v, tY u v = true → xS (f u) (f v) = true
theorem kN : mono oneB := fun u v h => by simp [xS, oneB, yT, h]
theorem mono_pre : mono preB := fun u v h => by simp [xS, preB, yT, h]
theorem mono_suf : mono sufB := fun u v h => by simp [xS, sufB, yT, h, rI]
theorem mono_fac : mono facB := fun u v h => by simp [xS, facB, yT, h, rI]
theorem blk_same (w x y : List (List Int)) : yT (w ++ x) (w ++ y) = yT x y := by
 induction w with
 | nil => rfl
 | cons a w ih => simp [yT, rI, ih]
theorem blk_front : ∀ (w v x y : List (List Int)), w.length = v.length → yT w v = true → yT (w ++ x) (v ++ y) = true
 | [], _, _, _, _, h => by simp [yT] at h
 | _ :: _, [], _, _, h, _ => by simp at h
 | a :: w, b :: v, x, y, hl, h => by
  simp only [List.cons_append, yT, Bool.or_eq_true, Bool.and_eq_true, decide_eq_true_eq] at h ⊢
  rcases h with h | ⟨rfl, h⟩
  ·exact .inl h
  ·exact .inr ⟨rfl, blk_front w v x y (by simpa using hl) h⟩
theorem blk_letters : ∀ u v : List Int, u.length = v.length → lexZ u v = true → yT (u.map fun c => [c]) (v.map fun c => [c]) = true
 | [], [], _, h => by simp [lexZ] at h
 | [], _ :: _, h, _ => by simp at h
 | _ :: _, [], h, _ => by simp at h
 | a :: x, b :: y, hl, h => by
  simp only [lexZ, Bool.or_eq_true, Bool.and_eq_true, decide_eq_true_eq] at h
  simp only [List.map_cons, yT, Bool.or_eq_true, Bool.and_eq_true, decide_eq_true_eq]
  rcases h with h | ⟨rfl, h⟩
  ·exact .inl (by simp [tY, lexZ, h])
  ·exact .inr ⟨rfl, blk_letters x y (by simpa using hl) h⟩
theorem mono_piece : mono tR := fun u v h => by
 simp only [tY, Bool.or_eq_true, Bool.and_eq_true, decide_eq_true_eq] at h
 simp only [xS, Bool.or_eq_true, Bool.and_eq_true, decide_eq_true_eq, tR, List.length_append, List.length_map, List.length_singleton]
 rcases h with h | ⟨e, h⟩
 ·exact .inl (by omega)
 ·refine .inr ⟨by omega, ?_⟩
  rw [List.append_assoc, List.append_assoc, blk_same]
  exact blk_front _ _ _ _ (by simp [e]) (blk_letters u v e h)
theorem rE {f : List Int → List (List Int)} (hf : mono f) {l : List (List Int)} (h : kD l) : wS (l.map f) := by
 rw [wS, List.pairwise_map]
 exact List.Pairwise.imp (fun h => hf _ _ h) h
theorem sort_drop {l : List (List Int)} (h : kD l) (n : Nat) : kD (l.drop n) := List.Pairwise.drop h
theorem tI {a b : List (List (List Int))} (ha : wS a) (hb : wS b) (h : ∀ p ∈ a, ∀ q ∈ b, xS p q = true) : wS (a ++ b) := by
 rw [wS, List.pairwise_append]; exact ⟨ha, hb, h⟩
theorem pO {p q : List (List Int)} (h : p.length < q.length) : xS p q = true := by simp [xS, h]
theorem suf_pre {u v : List Int} (hv : v ≠ []) : xS (sufB u) (preB v) = true := by
 have : 0 < v.length := List.length_pos_iff.2 hv
 simp [xS, sufB, preB, yT, tY, this]
theorem iA {bs : List (List (List Int))} {ws : List (List Int)} {n : Nat} (hb : wS bs) (hw : kD ws) (hl : ∀ b ∈ bs, b.length = n) : wS (exts bs ws) := by
 rw [wS, exts, List.pairwise_flatMap]
 refine ⟨fun b _ => ?_, ?_⟩
 ·rw [List.pairwise_map]
  refine List.Pairwise.imp ?_ hw
  intro u v h
  simp only [xS, Bool.or_eq_true, Bool.and_eq_true, decide_eq_true_eq]
  exact .inr ⟨by simp, by rw [blk_same]; simp [yT, h]⟩
 ·refine List.Pairwise.imp_of_mem ?_ hb
  intro a b ha hb2 h x hx y hy
  obtain ⟨u, _, rfl⟩ := List.mem_map.1 hx
  obtain ⟨v, _, rfl⟩ := List.mem_map.1 hy
  have e : a.length = b.length := by rw [hl a ha, hl b hb2]
  simp only [xS, Bool.or_eq_true, Bool.and_eq_true, decide_eq_true_eq] at h ⊢
  rcases h with h | ⟨_, h⟩
  ·omega
  ·exact .inr ⟨by simp [e], blk_front a b _ _ e h⟩
theorem chB_sorted {ws : List (List Int)} (hw : kD ws) : ∀ i, wS (chB ws i)
 | 0 => rE kN hw
 | i + 1 => iA (chB_sorted hw i) (sort_drop hw 1) (fun _ h => lC i h)
theorem lW {ws : List (List Int)} {i : Nat} {p : List (List Int)} (h : p ∈ exts (chB ws i) ws) : p.length = i + 2 := by
 obtain ⟨c, hc, hb⟩ := List.mem_flatMap.1 h
 obtain ⟨u, _, rfl⟩ := List.mem_map.1 hb
 rw [List.length_append, lC i hc]; rfl
theorem chL_mem_len {ws : List (List Int)} : ∀ {i : Nat} {p : List (List Int)}, p ∈ chL ws i → p.length ≤ i + 1
 | 0, p, h => by
  obtain ⟨u, _, rfl⟩ := List.mem_map.1 h; exact Nat.le_refl _
 | i + 1, p, h => by
  rcases List.mem_append.1 h with h | h
  ·have := chL_mem_len h; omega
  ·rw [lW h]; omega
theorem chL_sorted {ws : List (List Int)} (hw : kD ws) : ∀ i, wS (chL ws i)
 | 0 => rE kN hw
 | i + 1 => tI (chL_sorted hw i) (iA (chB_sorted hw i) hw (fun _ h => lC i h)) (fun p hp q hq => pO (by have := chL_mem_len hp; rw [lW hq]; omega))
theorem drop_ne {letters n : Nat} {u : List Int} (h : u ∈ (upTo letters (n + 1)).drop 1) : u ≠ [] := by
 obtain ⟨r, e, hr⟩ := kR letters n
 rw [e] at h; exact hr u (by simpa using h)
theorem jZ (kind : Int) (letters k m : Nat) : wS (famP kind letters k m) := by
 have hW : kD (yQ letters k) := oT letters (k + 1)
 have hS : kD (upTo letters k) := oT letters k
 have hD : kD ((yQ letters k).drop 1) := sort_drop hW 1
 have hne : ∀ u ∈ (yQ letters k).drop 1, u ≠ [] := fun u h => drop_ne h
 have l1 : ∀ p ∈ (upTo letters k).map oneB, p.length = 1 := fun p hp => by obtain ⟨u, _, rfl⟩ := List.mem_map.1 hp; rfl
 have l2 : ∀ p ∈ ((yQ letters k).drop 1).map preB, p.length = 2 := fun p hp => by obtain ⟨u, _, rfl⟩ := List.mem_map.1 hp; rfl
 have l3 : ∀ p ∈ ((yQ letters k).drop 1).map sufB, p.length = 2 := fun p hp => by obtain ⟨u, _, rfl⟩ := List.mem_map.1 hp; rfl
 have l4 : ∀ p ∈ ((yQ letters k).drop 1).map facB, p.length = 3 := fun p hp => by obtain ⟨u, _, rfl⟩ := List.mem_map.1 hp; rfl
 have h23 : ∀ p ∈ ((yQ letters k).drop 1).map sufB, ∀ q ∈ ((yQ letters k).drop 1).map preB, xS p q = true := fun p hp q hq => by
  obtain ⟨u, _, rfl⟩ := List.mem_map.1 hp
  obtain ⟨v, hv, rfl⟩ := List.mem_map.1 hq
  exact suf_pre (hne v hv)
 have A := rE kN hS
 have S := rE mono_suf hD
 have P := rE mono_pre hD
 have F := rE mono_fac hD
 have AS := tI A S (fun p hp q hq => pO (by rw [l1 p hp, l3 q hq]; decide))
 have ASP := tI AS P (fun p hp q hq => by
  rcases List.mem_append.1 hp with h | h
  ·exact pO (by rw [l1 p h, l2 q hq]; decide)
  ·exact h23 p h q hq)
 unfold famP
 simp only
 split
 ·exact rE kN hW
 split
 ·exact tI A P (fun p hp q hq => pO (by rw [l1 p hp, l2 q hq]; decide))
 split
 ·exact AS
 split
 ·exact ASP
 split
 ·refine tI ASP F (fun p hp q hq => pO ?_)
  rw [l4 q hq]
  rcases List.mem_append.1 hp with h | h
  ·rcases List.mem_append.1 h with h | h
   ·rw [l1 p h]; decide
   ·rw [l3 p h]; decide
  ·rw [l2 p h]; decide
 split
 ·exact rE mono_piece hD
 ·exact chL_sorted hW _
end Go.Proofs.Ytjfdomfendbhfaa
