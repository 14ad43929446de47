/- Part 44 of the proof: Comp, Less, FamOrd, FamRef, RSort, RFamB, RFamO, RFam5, RFam6, KnW, RVal33, RVal34, RMatch, RMat2, RMat34, RHold34, CRaw, OpenPat, OpenDia, SomeLen. -/
import Derived.Test.YtjfdomfendbhfaaQa43
import Derived.Lib.OthersKept
import Derived.SliceStrings
import Derived.ChangeSame
import Derived.Deep.Matrix
import Derived.Shelf.Vars
set_option linter.unusedVariables false
set_option linter.unusedSimpArgs false
namespace Go.Proofs.Ytjfdomfendbhfaa
open Go.RowKit
def lexZ : List Int → List Int → Bool
 | _, [] => false
 | [], _ :: _ => true
 | a :: x, b :: y => decide (a < b) || (decide (a = b) && lexZ x y)
def uI (u v : List Int) : Bool := decide (u.length < v.length) || (decide (u.length = v.length) && lexZ u v)
theorem jI : ∀ u v : List Int, u.length = v.length → u ≠ v → lexZ u v = true ∨ lexZ v u = true
 | [], [], _, h => absurd rfl h
 | [], _ :: _, h, _ => by simp at h
 | _ :: _, [], h, _ => by simp at h
 | a :: x, b :: y, hl, hne => by
  simp only [lexZ, Bool.or_eq_true, Bool.and_eq_true, decide_eq_true_eq]
  rcases Int.lt_trichotomy a b with h | h | h
  ·exact .inl (.inl h)
  ·subst h
   rcases jI x y (by simpa using hl) (fun e => hne (by rw [e])) with h | h
   ·exact .inl (.inr ⟨rfl, h⟩)
   ·exact .inr (.inr ⟨rfl, h⟩)
  ·exact .inr (.inl h)
theorem jH : ∀ u v w : List Int, lexZ u v = true → lexZ v w = true → lexZ u w = true
 | _, [], _, h, _ => by cases ‹List Int› <;> simp [lexZ] at h
 | _, _ :: _, [], _, h => by simp [lexZ] at h
 | [], _ :: _, _ :: _, _, _ => rfl
 | a :: x, b :: y, c :: z, h1, h2 => by
  simp only [lexZ, Bool.or_eq_true, Bool.and_eq_true, decide_eq_true_eq] at h1 h2 ⊢
  rcases h1 with h1 | ⟨rfl, h1⟩
  ·rcases h2 with h2 | ⟨rfl, h2⟩
   ·exact .inl (by omega)
   ·exact .inl h1
  ·rcases h2 with h2 | ⟨rfl, h2⟩
   ·exact .inl h2
   ·exact .inr ⟨rfl, jH x y z h1 h2⟩
theorem lK : ∀ u : List Int, lexZ u u = false
 | [] => rfl
 | a :: x => by simp [lexZ, lK x]
theorem tK (u : List Int) : uI u u = false := by simp [uI, lK]
theorem lessW_total {u v : List Int} (h : u ≠ v) : uI u v = true ∨ uI v u = true := by
 simp only [uI, Bool.or_eq_true, Bool.and_eq_true, decide_eq_true_eq]
 rcases Nat.lt_trichotomy u.length v.length with h1 | h1 | h1
 ·exact .inl (.inl h1)
 ·rcases jI u v h1 h with h2 | h2
  ·exact .inl (.inr ⟨h1, h2⟩)
  ·exact .inr (.inr ⟨h1.symm, h2⟩)
 ·exact .inr (.inl h1)
theorem lessW_trans {u v w : List Int} (h1 : uI u v = true) (h2 : uI v w = true) : uI u w = true := by
 simp only [uI, Bool.or_eq_true, Bool.and_eq_true, decide_eq_true_eq] at h1 h2 ⊢
 rcases h1 with h1 | ⟨e1, h1⟩
 ·rcases h2 with h2 | ⟨e2, h2⟩
  ·exact .inl (by omega)
  ·exact .inl (by omega)
 ·rcases h2 with h2 | ⟨e2, h2⟩
  ·exact .inl (by omega)
  ·exact .inr ⟨by omega, jH u v w h1 h2⟩
def yJ : List (List Int) → List (List Int) → Bool
 | [], _ => false
 | _ :: _, [] => false
 | a :: p, b :: q => uI a b || (decide (a = b) && yJ p q)
def xI (p q : List (List Int)) : Bool := decide (p.length < q.length) || (decide (p.length = q.length) && yJ p q)
theorem oB : ∀ p q : List (List Int), p.length = q.length → p ≠ q → yJ p q = true ∨ yJ q p = true
 | [], [], _, h => absurd rfl h
 | [], _ :: _, h, _ => by simp at h
 | _ :: _, [], h, _ => by simp at h
 | a :: p, b :: q, hl, hne => by
  simp only [yJ, Bool.or_eq_true, Bool.and_eq_true, decide_eq_true_eq]
  by_cases e : a = b
  ·subst e
   rcases oB p q (by simpa using hl) (fun e => hne (by rw [e])) with h | h
   ·exact .inl (.inr ⟨rfl, h⟩)
   ·exact .inr (.inr ⟨rfl, h⟩)
  ·rcases lessW_total e with h | h
   ·exact .inl (.inl h)
   ·exact .inr (.inl h)
theorem oA : ∀ p q r : List (List Int), yJ p q = true → yJ q r = true → yJ p r = true
 | [], _, _, h, _ => by simp [yJ] at h
 | _ :: _, [], _, h, _ => by simp [yJ] at h
 | _ :: _, _ :: _, [], _, h => by simp [yJ] at h
 | a :: p, b :: q, c :: r, h1, h2 => by
  simp only [yJ, Bool.or_eq_true, Bool.and_eq_true, decide_eq_true_eq] at h1 h2 ⊢
  rcases h1 with h1 | ⟨rfl, h1⟩
  ·rcases h2 with h2 | ⟨rfl, h2⟩
   ·exact .inl (lessW_trans h1 h2)
   ·exact .inl h1
  ·rcases h2 with h2 | ⟨rfl, h2⟩
   ·exact .inl h2
   ·exact .inr ⟨rfl, oA p q r h1 h2⟩
theorem qP : ∀ p : List (List Int), yJ p p = false
 | [] => rfl
 | a :: p => by simp [yJ, tK, qP p]
theorem tL (p : List (List Int)) : xI p p = false := by simp [xI, qP]
theorem lessP_total {p q : List (List Int)} (h : p ≠ q) : xI p q = true ∨ xI q p = true := by
 simp only [xI, Bool.or_eq_true, Bool.and_eq_true, decide_eq_true_eq]
 rcases Nat.lt_trichotomy p.length q.length with h1 | h1 | h1
 ·exact .inl (.inl h1)
 ·rcases oB p q h1 h with h2 | h2
  ·exact .inl (.inr ⟨h1, h2⟩)
  ·exact .inr (.inr ⟨h1.symm, h2⟩)
 ·exact .inr (.inl h1)
theorem lL {p q r : List (List Int)} (h1 : xI p q = true) (h2 : xI q r = true) : xI p r = true := by
 simp only [xI, Bool.or_eq_true, Bool.and_eq_true, decide_eq_true_eq] at h1 h2 ⊢
 rcases h1 with h1 | ⟨e1, h1⟩
 ·rcases h2 with h2 | ⟨e2, h2⟩
  ·exact .inl (by omega)
  ·exact .inl (by omega)
 ·rcases h2 with h2 | ⟨e2, h2⟩
  ·exact .inl (by omega)
  ·exact .inr ⟨by omega, oA p q r h1 h2⟩
theorem lessP_asymm {p q : List (List Int)} (h : xI p q = true) : xI q p = false := by
 cases e : xI q p with
 | false => rfl
 | true => have := lL h e; rw [tL] at this; cases this
theorem lessP_ext : ∀ {l m : List (List (List Int))}, l.Pairwise (fun a b => xI a b = true) → m.Pairwise (fun a b => xI a b = true) → (∀ a, a ∈ l ↔ a ∈ m) → l = m
 | [], [], _, _, _ => rfl
 | [], b :: m, _, _, h => by have := (h b).2 (by simp); simp at this
 | a :: l, [], _, _, h => by have := (h a).1 (by simp); simp at this
 | a :: l, b :: m, hl, hm, h => by
  have hl' := List.pairwise_cons.1 hl
  have hm' := List.pairwise_cons.1 hm
  have e : a = b := by
   rcases List.mem_cons.1 ((h a).1 (by simp)) with h1 | h1
   ·exact h1
   ·rcases List.mem_cons.1 ((h b).2 (by simp)) with h2 | h2
    ·exact h2.symm
    ·have h3 := hl'.1 b h2
     have h4 := lessP_asymm (hm'.1 a h1)
     rw [h3] at h4; cases h4
  subst e
  congr 1
  refine lessP_ext hl'.2 hm'.2 fun c => ?_
  constructor
  ·intro hc
   have h1 := hl'.1 c hc
   rcases List.mem_cons.1 ((h c).1 (List.mem_cons_of_mem _ hc)) with e | e
   ·rw [e, tL] at h1; cases h1
   ·exact e
  ·intro hc
   have h1 := hm'.1 c hc
   rcases List.mem_cons.1 ((h c).2 (List.mem_cons_of_mem _ hc)) with e | e
   ·rw [e, tL] at h1; cases h1
   ·exact e
def okW (u : List Int) : Prop := ∀ x ∈ u, okNum 6 x
theorem u8_lt {a b : Int} (ha : okNum 6 a) (hb : okNum 6 b) : (UInt8.ofNat a.toNat < UInt8.ofNat b.toNat ↔ a < b) ∧ (UInt8.ofNat a.toNat = UInt8.ofNat b.toNat ↔ a = b) := by
 obtain ⟨a1, a2⟩ := ha
 obtain ⟨b1, b2⟩ := hb
 have e1 : (UInt8.ofNat a.toNat).toNat = a.toNat := by rw [UInt8.toNat_ofNat']; omega
 have e2 : (UInt8.ofNat b.toNat).toNat = b.toNat := by rw [UInt8.toNat_ofNat']; omega
 refine ⟨by rw [UInt8.lt_iff_toNat_lt, e1, e2]; omega, ⟨fun h => ?_, fun h => by rw [h]⟩⟩
 have := congrArg UInt8.toNat h
 rw [e1, e2] at this; omega
theorem bytes_lex : ∀ u v : List Int, okW u → okW v → Op.bytesLess ((u.map fun n => UInt8.ofNat n.toNat)) ((v.map fun n => UInt8.ofNat n.toNat)) = lexZ u v
 | [], [], _, _ => rfl
 | [], _ :: _, _, _ => rfl
 | _ :: _, [], _, _ => rfl
 | a :: x, b :: y, hu, hv => by
  have ih := bytes_lex x y (fun c hc => hu c (by simp [hc])) (fun c hc => hv c (by simp [hc]))
  obtain ⟨h1, h2⟩ := u8_lt (hu a (by simp)) (hv b (by simp))
  simp only [List.map_cons, Op.bytesLess, lexZ]
  rw [ih, decide_eq_decide.2 h1]
  congr 1
  congr 1
  rw [Bool.eq_iff_iff, beq_iff_eq, decide_eq_true_eq]; exact h2
theorem bytes_eq : ∀ u v : List Int, okW u → okW v → ((u.map fun n => UInt8.ofNat n.toNat) = (v.map fun n => UInt8.ofNat n.toNat) ↔ u = v)
 | [], [], _, _ => by simp
 | [], _ :: _, _, _ => by simp
 | _ :: _, [], _, _ => by simp
 | a :: x, b :: y, hu, hv => by
  have ih := bytes_eq x y (fun c hc => hu c (by simp [hc])) (fun c hc => hv c (by simp [hc]))
  obtain ⟨_, h2⟩ := u8_lt (hu a (by simp)) (hv b (by simp))
  simp only [List.map_cons, List.cons.injEq]
  rw [h2, ih]
def cmpI (u v : List Int) : Int := if uI u v then -1 else if u = v then 0 else 1
set_option maxHeartbeats 800000 in
theorem compare_any (u v : List Int) (w : World) (hu : u.length ≤ 1000) (hv : v.length ≤ 1000) (ou : okW u) (ov : okW v) :
  Calls Try.prog 98 #[.string (strOfNums u), .string (strOfNums v)] w fun e w' => e = .returned (.int .i64 (cmpI u v)) ∧ w = w' := by
 have h1 := strOfNums_size u
 have h2 := strOfNums_size v
 have hb : Op.bytesLess (strOfNums u).toList (strOfNums v).toList = lexZ u v := by rw [ByteArray.toList_eq, ByteArray.toList_eq, strOfNums_data, strOfNums_data]; exact bytes_lex u v ou ov
 have he : ((strOfNums u).toList == (strOfNums v).toList) = decide (u = v) := by
  rw [ByteArray.toList_eq, ByteArray.toList_eq, strOfNums_data, strOfNums_data, Bool.eq_iff_iff, beq_iff_eq, decide_eq_true_eq]; exact bytes_eq u v ou ov
 obtain ⟨lb, hlb⟩ : ∃ lb, lb = lexZ u v := ⟨_, rfl⟩
 obtain ⟨eb, heb⟩ : ∃ eb, eb = decide (u = v) := ⟨_, rfl⟩
 have HC : Hid (cmpI u v = if decide (u.length < v.length) || (decide (u.length = v.length) && lb) then -1 else if eb then 0 else 1) := Kh (by
  rw [cmpI, uI, hlb, heb]; simp)
 rw [← hlb] at hb
 rw [← heb] at he
 have HEQ : Hid (eb = true → u.length = v.length) := Kh (fun h => by rw [heb, decide_eq_true_eq] at h; rw [h])
 clear hlb heb
 by_cases hlt : u.length < v.length
 ·go_enter Try.func98, Try.ntmps98
  go_wp2
  go_ret
  exact ⟨zW (by rw [HC.out]; simp [hlt]), rfl⟩
 ·by_cases heq : u.length = v.length
  ·cases lb <;> cases eb
   all_goals
    go_enter Try.func98, Try.ntmps98
    go_wp2
    go_ret
    exact ⟨zW (by rw [HC.out]; simp [heq]), rfl⟩
  ·have heb2 : eb = false := by
    cases eb with
    | false => rfl
    | true => exact absurd (HEQ.out rfl) heq
   subst heb2
   go_enter Try.func98, Try.ntmps98
   go_wp2
   go_ret
   exact ⟨zW (by rw [HC.out]; simp [hlt, heq]), rfl⟩
theorem blk_drop {p q : List (List Int)} {k : Nat} (hp : k < p.length) (hq : k < q.length) : yJ (p.drop k) (q.drop k) = (uI p[k] q[k] || (decide (p[k] = q[k]) && yJ (p.drop (k + 1)) (q.drop (k + 1)))) := by
 rw [List.drop_eq_getElem_cons hp, List.drop_eq_getElem_cons hq]; rfl
theorem cmpI_cases (u v : List Int) : (cmpI u v = -1 ∧ uI u v = true) ∨ (cmpI u v = 0 ∧ u = v ∧ uI u v = false) ∨ (cmpI u v = 1 ∧ uI u v = false ∧ u ≠ v) := by
 unfold cmpI
 cases h : uI u v with
 | true => exact .inl ⟨by simp, rfl⟩
 | false =>
  by_cases e : u = v
  ·exact .inr (.inl ⟨by simp [e], e, rfl⟩)
  ·exact .inr (.inr ⟨by simp [e], rfl, e⟩)
theorem row_cellS {b off : Nat} {w : World} {ls : List (List Int)} (hra : wO w b off (strs ls)) {i : Nat} (hi : i < ls.length) : w.cell? ⟨b, off + i, none⟩ = some (.string (strOfNums ls[i])) := hra.map i hi
set_option maxRecDepth 100000 in
set_option maxHeartbeats 1000000 in
theorem less_any (B1 B2 : Nat) (w : World) (v1 v2 : Value) (p q : List (List Int)) (h1 : Row B1 w v1 (strs p)) (h2 : Row B2 w v2 (strs q)) (hp : ∀ u ∈ p, okW u ∧ u.length ≤ 8) (hq : ∀ u ∈ q, okW u ∧ u.length ≤ 8) (hpl : p.length ≤ 100) (hql : q.length ≤ 100) :
  Calls Try.prog 78 #[.agg #[v1], .agg #[v2]] w fun e w' => e = .returned (.bool (xI p q)) ∧ w.grownBy w' none := by
 have H1 := Kh h1; have H2 := Kh h2; have HP := Kh hp; have HQ := Kh hq
 obtain ⟨a1, c1, rfl⟩ := h1.shape
 obtain ⟨a2, c2, rfl⟩ := h2.shape
 rw [xT] at H1 H2 ⊢
 rw [xT]
 clear h1 h2 hp hq
 obtain ⟨P, hP⟩ : ∃ P, P = w.heap.size := ⟨_, rfl⟩
 obtain ⟨wA, hWA⟩ : ∃ wA, wA = (w.alloc (.cells #[.slice a1 p.length c1] 28)).alloc (.cells #[.slice a2 q.length c2] 28) := ⟨_, rfl⟩
 have b1 := zB (heap_alloc_new w (.cells #[.slice a1 p.length c1] 28)) (World.grownBy_alloc _ (.cells #[.slice a2 q.length c2] 28) none) (by simp)
 have b2 := heap_alloc_new (w.alloc (.cells #[.slice a1 p.length c1] 28)) (.cells #[.slice a2 q.length c2] 28)
 rw [zN] at b2
 rw [← hWA, ← hP] at b1 b2
 have hgA : w.grownBy wA none := by rw [hWA]; exact xZ (World.grownBy_alloc w _ none) _
 have HGA := Kh hgA; have HWA := Kh hWA; have HPE := Kh hP; have HB1 := Kh b1; have HB2 := Kh b2
 clear hgA hWA hP b1 b2
 go_enter Try.func78, Try.ntmps78
 go_upto_region 1 with fail
 rw [← HWA.out, ← HPE.out]
 have k1 := zI HB1.out 0 (by simp)
 have k2 := zI HB2.out 0 (by simp)
 simp only [List.getElem_toArray, List.getElem_cons_zero] at k1 k2
 by_cases hl : p.length = q.length
 ·have hne : ((p.length : Int) != (q.length : Int)) = false := by rw [hl]; simp
  go_wp2
  go_loopg [24] p.length (fun gh i wr => ∃ (k m : Nat), gh + k = p.length ∧ i = .int .i64 (k : Int) ∧ Hid (xI p q = yJ (p.drop k) (q.drop k)) ∧ wr = wA.drewN m)
  case atStart => exact ⟨0, 0, rfl, rfl, Kh (by simp [xI, hl]), rfl⟩
  case round =>
   obtain ⟨k, m, hgh, rfl, hbl, rfl⟩ := hrel
   have HGH := Kh hgh
   clear hgh
   by_cases hk : k < p.length
   ·have hk' : (k : Int) < p.length := by omega
    have hkq : k < q.length := by omega
    have hkq' : (k : Int) < q.length := by omega
    obtain ⟨b1, o1, d1, e1, _, f1, g1, r1⟩ := (H1.out.kept HGA.out (by simp)).some_ (by rw [xT]; omega)
    obtain ⟨b2, o2, d2, e2, _, f2, g2, r2⟩ := (H2.out.kept HGA.out (by simp)).some_ (by rw [xT]; omega)
    rw [xT] at e1 f1 e2 f2
    simp only [Value.slice.injEq] at e1 e2
    obtain ⟨rfl, _, rfl⟩ := e1
    obtain ⟨rfl, _, rfl⟩ := e2
    have x1 := row_cellS r1 hk
    have x2 := row_cellS r2 hkq
    have hm1 : c1 ≤ 9223372036854775807 := by unfold maxLen at g1; omega
    have hm2 : c2 ≤ 9223372036854775807 := by unfold maxLen at g2; omega
    have hu := HP.out _ (List.getElem_mem hk)
    have hv := HQ.out _ (List.getElem_mem hkq)
    have hst := blk_drop hk hkq
    obtain ⟨u, hu2⟩ : ∃ u, u = p[k] := ⟨_, rfl⟩
    obtain ⟨v, hv2⟩ : ∃ v, v = q[k] := ⟨_, rfl⟩
    rw [← hu2] at x1 hu hst
    rw [← hv2] at x2 hv hst
    have HCM : ∀ W : World, Hid (Calls Try.prog 98 #[.string (strOfNums u), .string (strOfNums v)] W fun e w' => e = .returned (.int .i64 (cmpI u v)) ∧ W = w') := fun W => Kh (compare_any u v W (by omega) (by omega) hu.1 hv.1)
    rcases cmpI_cases u v with ⟨hc, hw⟩ | ⟨hc, he, hw⟩ | ⟨hc, hw, he⟩
    ·have HR : Hid (xI p q = true) := Kh (by rw [hbl.out, hst, hw]; rfl)
     rw [hc] at HCM
     clear r1 r2 g1 g2 hu hv hst hu2 hv2 hw hc
     go_wp2
     go_quiet ((go_at_call 98; exact tS (HCM _).out))
     go_wp2
     go_ret
     exact ⟨zT HR.out.symm, zA HGA.out (zV wA _ none) (by simp)⟩
    ·have HR : Hid (xI p q = yJ (p.drop (k + 1)) (q.drop (k + 1))) := Kh (by rw [hbl.out, hst, hw, decide_eq_true he]; rfl)
     rw [hc] at HCM
     clear r1 r2 g1 g2 hu hv hst hu2 hv2 hw hc he
     go_wp2
     go_quiet ((go_at_call 98; exact tS (HCM _).out))
     go_wp2
     go_roundg (p.length - (k + 1))
     case measure => have := HGH.out; omega
     case rel => exact ⟨k + 1, _, by omega, by go_num, HR, rfl⟩
    ·have HR : Hid (xI p q = false) := Kh (by rw [hbl.out, hst, hw, decide_eq_false he]; rfl)
     rw [hc] at HCM
     clear r1 r2 g1 g2 hu hv hst hu2 hv2 hw hc he
     go_wp2
     go_quiet ((go_at_call 98; exact tS (HCM _).out))
     go_wp2
     go_ret
     exact ⟨zT HR.out.symm, zA HGA.out (zV wA _ none) (by simp)⟩
   ·have HR : Hid (xI p q = false) := Kh (by rw [hbl.out, List.drop_of_length_le (by omega)]; rfl)
    go_wp2
    go_ret
    exact ⟨zT HR.out.symm, zA HGA.out (zV wA _ none) (by simp)⟩
 ·have hne : ((p.length : Int) != (q.length : Int)) = true := by rw [bne_iff_ne]; omega
  have HR : Hid (xI p q = decide (p.length < q.length)) := Kh (by
   rw [xI, decide_eq_false hl, Bool.false_and, Bool.or_false])
  go_wp2
  go_ret
  exact ⟨zT (by rw [HR.out]), HGA.out⟩
end Go.Proofs.Ytjfdomfendbhfaa
namespace Go.Proofs.Ytjfdomfendbhfaa
theorem lexZ_same : ∀ (w x y : List Int), lexZ (w ++ x) (w ++ y) = lexZ x y
 | [], _, _ => rfl
 | a :: w, x, y => by simp [lexZ, lexZ_same w x y]
theorem jJ : ∀ (w v x y : List Int), w.length = v.length → lexZ w v = true → lexZ (w ++ x) (v ++ y) = true
 | [], [], _, _, _, h => by simp [lexZ] at h
 | [], _ :: _, _, _, h, _ => by simp at h
 | _ :: _, [], _, _, h, _ => by simp at h
 | a :: w, b :: v, x, y, hl, h => by
  simp only [List.cons_append, lexZ, Bool.or_eq_true, Bool.and_eq_true, decide_eq_true_eq] at h ⊢
  rcases h with h | ⟨rfl, h⟩
  ·exact .inl h
  ·exact .inr ⟨rfl, jJ w v x y (by simpa using hl) h⟩
theorem block_sorted (letters : Nat) (w : List Int) : (block letters w 0).Pairwise (fun a b => lexZ a b = true) := by
 rw [block, List.pairwise_map]
 refine List.Pairwise.imp ?_ (List.pairwise_lt_range' (s := 0) (n := letters - 0) (step := 1) )
 intro a b h
 rw [lexZ_same]
 simp [lexZ]; omega
theorem lJ {letters : Nat} {w x : List Int} (h : x ∈ block letters w 0) : ∃ c : Int, x = w ++ [c] := by
 obtain ⟨c, _, rfl⟩ := List.mem_map.1 h
 exact ⟨_, rfl⟩
theorem jG (letters : Nat) : ∀ n, (lex letters n).Pairwise (fun a b => lexZ a b = true)
 | 0 => by simp [lex]
 | n + 1 => by
  rw [lex_succ, List.pairwise_flatMap]
  refine ⟨fun w _ => block_sorted letters w, ?_⟩
  have ih := jG letters n
  refine List.Pairwise.imp_of_mem ?_ ih
  intro a b ha hb hab x hx y hy
  obtain ⟨c, rfl⟩ := lJ hx
  obtain ⟨d, rfl⟩ := lJ hy
  exact jJ a b [c] [d] (by rw [(uU ha).1, (uU hb).1]) hab
def nM (l : List (List Int)) : Prop := l.Pairwise (fun a b => uI a b = true)
def uA (l : List (List (List Int))) : Prop := l.Pairwise (fun a b => xI a b = true)
theorem qR (letters : Nat) : ∀ n, nM (upTo letters n)
 | 0 => by simp [upTo, nM]
 | n + 1 => by
  rw [yY, nM, List.pairwise_append]
  refine ⟨qR letters n, ?_, fun a ha b hb => ?_⟩
  ·refine List.Pairwise.imp_of_mem ?_ (jG letters n)
   intro a b ha hb h
   simp only [uI, Bool.or_eq_true, Bool.and_eq_true, decide_eq_true_eq]
   exact .inr ⟨by rw [(uU ha).1, (uU hb).1], h⟩
  ·simp only [uI, Bool.or_eq_true, decide_eq_true_eq]
   exact .inl (by rw [(uU hb).1]; exact qT ha)
theorem mE (letters n : Nat) : ∃ r, upTo letters (n + 1) = [] :: r ∧ ∀ u ∈ r, u ≠ [] := by
 have e := pL letters n
 refine ⟨_, e, fun u hu => ?_⟩
 obtain ⟨w, _, hx⟩ := List.mem_flatMap.1 hu
 obtain ⟨c, rfl⟩ := lJ hx
 simp
def mono (f : List Int → List (List Int)) : Prop := ∀ u v, uI u v = true → xI (f u) (f v) = true
theorem nV : mono oneB := fun u v h => by simp [xI, oneB, yJ, h]
theorem mono_pre : mono preB := fun u v h => by simp [xI, preB, yJ, h]
theorem mono_suf : mono sufB := fun u v h => by simp [xI, sufB, yJ, h, tK]
theorem mono_fac : mono facB := fun u v h => by simp [xI, facB, yJ, h, tK]
theorem blk_same (w x y : List (List Int)) : yJ (w ++ x) (w ++ y) = yJ x y := by
 induction w with
 | nil => rfl
 | cons a w ih => simp [yJ, tK, ih]
theorem kI : ∀ (w v x y : List (List Int)), w.length = v.length → yJ w v = true → yJ (w ++ x) (v ++ y) = true
 | [], _, _, _, _, h => by simp [yJ] at h
 | _ :: _, [], _, _, h, _ => by simp at h
 | a :: w, b :: v, x, y, hl, h => by
  simp only [List.cons_append, yJ, Bool.or_eq_true, Bool.and_eq_true, decide_eq_true_eq] at h ⊢
  rcases h with h | ⟨rfl, h⟩
  ·exact .inl h
  ·exact .inr ⟨rfl, kI w v x y (by simpa using hl) h⟩
theorem kH : ∀ u v : List Int, u.length = v.length → lexZ u v = true → yJ (u.map fun c => [c]) (v.map fun c => [c]) = true
 | [], [], _, h => by simp [lexZ] at h
 | [], _ :: _, h, _ => by simp at h
 | _ :: _, [], h, _ => by simp at h
 | a :: x, b :: y, hl, h => by
  simp only [lexZ, Bool.or_eq_true, Bool.and_eq_true, decide_eq_true_eq] at h
  simp only [List.map_cons, yJ, Bool.or_eq_true, Bool.and_eq_true, decide_eq_true_eq]
  rcases h with h | ⟨rfl, h⟩
  ·exact .inl (by simp [uI, lexZ, h])
  ·exact .inr ⟨rfl, kH x y (by simpa using hl) h⟩
theorem mono_piece : mono uB := fun u v h => by
 simp only [uI, Bool.or_eq_true, Bool.and_eq_true, decide_eq_true_eq] at h
 simp only [xI, Bool.or_eq_true, Bool.and_eq_true, decide_eq_true_eq, uB, List.length_append, List.length_map, List.length_singleton]
 rcases h with h | ⟨e, h⟩
 ·exact .inl (by omega)
 ·refine .inr ⟨by omega, ?_⟩
  rw [List.append_assoc, List.append_assoc, blk_same]
  exact kI _ _ _ _ (by simp [e]) (kH u v e h)
theorem tI {f : List Int → List (List Int)} (hf : mono f) {l : List (List Int)} (h : nM l) : uA (l.map f) := by
 rw [uA, List.pairwise_map]
 exact List.Pairwise.imp (fun h => hf _ _ h) h
theorem sort_drop {l : List (List Int)} (h : nM l) (n : Nat) : nM (l.drop n) := List.Pairwise.drop h
theorem vQ {a b : List (List (List Int))} (ha : uA a) (hb : uA b) (h : ∀ p ∈ a, ∀ q ∈ b, xI p q = true) : uA (a ++ b) := by
 rw [uA, List.pairwise_append]; exact ⟨ha, hb, h⟩
theorem rL {p q : List (List Int)} (h : p.length < q.length) : xI p q = true := by simp [xI, h]
theorem suf_pre {u v : List Int} (hv : v ≠ []) : xI (sufB u) (preB v) = true := by
 have : 0 < v.length := List.length_pos_iff.2 hv
 simp [xI, sufB, preB, yJ, uI, this]
theorem lS {bs : List (List (List Int))} {ws : List (List Int)} {n : Nat} (hb : uA bs) (hw : nM ws) (hl : ∀ b ∈ bs, b.length = n) : uA (exts bs ws) := by
 rw [uA, exts, List.pairwise_flatMap]
 refine ⟨fun b _ => ?_, ?_⟩
 ·rw [List.pairwise_map]
  refine List.Pairwise.imp ?_ hw
  intro u v h
  simp only [xI, Bool.or_eq_true, Bool.and_eq_true, decide_eq_true_eq]
  exact .inr ⟨by simp, by rw [blk_same]; simp [yJ, h]⟩
 ·refine List.Pairwise.imp_of_mem ?_ hb
  intro a b ha hb2 h x hx y hy
  obtain ⟨u, _, rfl⟩ := List.mem_map.1 hx
  obtain ⟨v, _, rfl⟩ := List.mem_map.1 hy
  have e : a.length = b.length := by rw [hl a ha, hl b hb2]
  simp only [xI, Bool.or_eq_true, Bool.and_eq_true, decide_eq_true_eq] at h ⊢
  rcases h with h | ⟨_, h⟩
  ·omega
  ·exact .inr ⟨by simp [e], kI a b _ _ e h⟩
theorem jS {ws : List (List Int)} (hw : nM ws) : ∀ i, uA (chB ws i)
 | 0 => tI nV hw
 | i + 1 => lS (jS hw i) (sort_drop hw 1) (fun _ h => kF i h)
theorem nI {ws : List (List Int)} {i : Nat} {p : List (List Int)} (h : p ∈ exts (chB ws i) ws) : p.length = i + 2 := by
 obtain ⟨c, hc, hb⟩ := List.mem_flatMap.1 h
 obtain ⟨u, _, rfl⟩ := List.mem_map.1 hb
 rw [List.length_append, kF i hc]; rfl
theorem kE {ws : List (List Int)} : ∀ {i : Nat} {p : List (List Int)}, p ∈ chL ws i → p.length ≤ i + 1
 | 0, p, h => by
  obtain ⟨u, _, rfl⟩ := List.mem_map.1 h; exact Nat.le_refl _
 | i + 1, p, h => by
  rcases List.mem_append.1 h with h | h
  ·have := kE h; omega
  ·rw [nI h]; omega
theorem jR {ws : List (List Int)} (hw : nM ws) : ∀ i, uA (chL ws i)
 | 0 => tI nV hw
 | i + 1 => vQ (jR hw i) (lS (jS hw i) hw (fun _ h => kF i h)) (fun p hp q hq => rL (by have := kE hp; rw [nI hq]; omega))
theorem drop_ne {letters n : Nat} {u : List Int} (h : u ∈ (upTo letters (n + 1)).drop 1) : u ≠ [] := by
 obtain ⟨r, e, hr⟩ := mE letters n
 rw [e] at h; exact hr u (by simpa using h)
theorem lQ (kind : Int) (letters k m : Nat) : uA (famP kind letters k m) := by
 have hW : nM (yL letters k) := qR letters (k + 1)
 have hS : nM (upTo letters k) := qR letters k
 have hD : nM ((yL letters k).drop 1) := sort_drop hW 1
 have hne : ∀ u ∈ (yL letters k).drop 1, u ≠ [] := fun u h => drop_ne h
 have l1 : ∀ p ∈ (upTo letters k).map oneB, p.length = 1 := fun p hp => by obtain ⟨u, _, rfl⟩ := List.mem_map.1 hp; rfl
 have l2 : ∀ p ∈ ((yL letters k).drop 1).map preB, p.length = 2 := fun p hp => by obtain ⟨u, _, rfl⟩ := List.mem_map.1 hp; rfl
 have l3 : ∀ p ∈ ((yL letters k).drop 1).map sufB, p.length = 2 := fun p hp => by obtain ⟨u, _, rfl⟩ := List.mem_map.1 hp; rfl
 have l4 : ∀ p ∈ ((yL letters k).drop 1).map facB, p.length = 3 := fun p hp => by obtain ⟨u, _, rfl⟩ := List.mem_map.1 hp; rfl
 have h23 : ∀ p ∈ ((yL letters k).drop 1).map sufB, ∀ q ∈ ((yL letters k).drop 1).map preB, xI p q = true := fun p hp q hq => by
  obtain ⟨u, _, rfl⟩ := List.mem_map.1 hp
  obtain ⟨v, hv, rfl⟩ := List.mem_map.1 hq
  exact suf_pre (hne v hv)
 have A := tI nV hS
 have S := tI mono_suf hD
 have P := tI mono_pre hD
 have F := tI mono_fac hD
 have AS := vQ A S (fun p hp q hq => rL (by rw [l1 p hp, l3 q hq]; decide))
 have ASP := vQ AS P (fun p hp q hq => by
  rcases List.mem_append.1 hp with h | h
  ·exact rL (by rw [l1 p h, l2 q hq]; decide)
  ·exact h23 p h q hq)
 unfold famP
 simp only
 split
 ·exact tI nV hW
 split
 ·exact vQ A P (fun p hp q hq => rL (by rw [l1 p hp, l2 q hq]; decide))
 split
 ·exact AS
 split
 ·exact ASP
 split
 ·refine vQ ASP F (fun p hp q hq => rL ?_)
  rw [l4 q hq]
  rcases List.mem_append.1 hp with h | h
  ·rcases List.mem_append.1 h with h | h
   ·rw [l1 p h]; decide
   ·rw [l3 p h]; decide
  ·rw [l2 p h]; decide
 split
 ·exact tI mono_piece hD
 ·exact jR hW _
end Go.Proofs.Ytjfdomfendbhfaa
namespace Go.Proofs.Ytjfdomfendbhfaa
def genU (kind : Int) (k : Nat) (u : List Int) : List (List (List Int)) :=
 (if kind = 1 ∨ kind = 7 ∨ (kind ≠ 6 ∧ u.length < k) then [oneB u] else []) ++ (if u = [] then [] else (if kind = 2 ∨ kind = 4 ∨ kind = 5 then [preB u] else []) ++ ((if kind = 3 ∨ kind = 4 ∨ kind = 5 then [sufB u] else []) ++ ((if kind = 5 then [facB u] else []) ++ (if kind = 6 then [uB u] else []))))
def genL (kind : Int) (k : Nat) (W : List (List Int)) : List (List (List Int)) := W.flatMap (genU kind k)
def refL (kind : Int) (letters k m : Nat) : List (List (List Int)) := genL kind k (yL letters k) ++ (if kind = 7 then (allC (yL letters k) (m + 1)).take 301 else [])
theorem genL_snoc (kind : Int) (k : Nat) {W : List (List Int)} {j : Nat} (h : j < W.length) : genL kind k (W.take (j + 1)) = genL kind k (W.take j) ++ genU kind k W[j] := by
 rw [genL, List.take_succ_eq_append_getElem h, List.flatMap_append]; simp [genL]
theorem vR {α β : Type} (f g : α → List β) : ∀ l : List α, (l.flatMap fun x => f x ++ g x).Perm (l.flatMap f ++ l.flatMap g)
 | [] => by simp
 | a :: l => by
  simp only [List.flatMap_cons]
  have ih := vR f g l
  have h1 : (f a ++ g a ++ l.flatMap fun x => f x ++ g x).Perm (f a ++ g a ++ (l.flatMap f ++ l.flatMap g)) := List.Perm.append_left _ ih
  refine h1.trans ?_
  rw [List.append_assoc, List.append_assoc]
  refine List.Perm.append_left _ ?_
  rw [← List.append_assoc, ← List.append_assoc]
  exact List.Perm.append_right _ List.perm_append_comm
theorem flat_if {α β : Type} (c : α → Prop) [DecidablePred c] (h : α → β) : ∀ l : List α, (l.flatMap fun x => if c x then [h x] else []) = (l.filter fun x => decide (c x)).map h
 | [] => rfl
 | a :: l => by
  simp only [List.flatMap_cons, flat_if c h l, List.filter_cons]
  by_cases hc : c a <;> simp [hc]
theorem filter_short (letters k : Nat) : ((yL letters k).filter fun u => decide (u.length < k)) = upTo letters k := by
 rw [yL, yY, List.filter_append]
 have e1 : (upTo letters k).filter (fun u => decide (u.length < k)) = upTo letters k := List.filter_eq_self.2 fun u hu => by simpa using qT hu
 have e2 : (lex letters k).filter (fun u => decide (u.length < k)) = [] := List.filter_eq_nil_iff.2 fun u hu => by rw [(uU hu).1]; simp
 rw [e1, e2, List.append_nil]
theorem wH {α β : Type} {f g : α → List β} : ∀ {l : List α}, (∀ x ∈ l, f x = g x) → l.flatMap f = l.flatMap g
 | [], _ => rfl
 | a :: l, h => by rw [List.flatMap_cons, List.flatMap_cons, h a (by simp), wH fun x hx => h x (by simp [hx])]
theorem lM {letters k : Nat} (f : List Int → List (List (List Int))) : ((yL letters k).flatMap fun u => if u = [] then [] else f u) = ((yL letters k).drop 1).flatMap f := by
 obtain ⟨r, e, hr⟩ := mE letters k
 rw [yL, e]
 simp only [List.flatMap_cons, if_pos, List.nil_append, List.drop_one, List.tail_cons]
 exact wH fun u hu => by rw [if_neg (hr u hu)]
theorem vO {α β : Type} (h : α → β) (l : List α) : (l.flatMap fun x => [h x]) = l.map h := by induction l with
 | nil => rfl
 | cons a l ih => simp [ih]
theorem genU_1 (k : Nat) (u : List Int) : genU 1 k u = [oneB u] := by unfold genU; by_cases h : u = [] <;> simp [h]
theorem genU_7 (k : Nat) (u : List Int) : genU 7 k u = [oneB u] := by unfold genU; by_cases h : u = [] <;> simp [h]
theorem genU_2 (k : Nat) (u : List Int) : genU 2 k u = (if u.length < k then [oneB u] else []) ++ (if u = [] then [] else [preB u]) := by unfold genU; by_cases h : u = [] <;> simp [h]
theorem genU_3 (k : Nat) (u : List Int) : genU 3 k u = (if u.length < k then [oneB u] else []) ++ (if u = [] then [] else [sufB u]) := by unfold genU; by_cases h : u = [] <;> simp [h]
theorem genU_4 (k : Nat) (u : List Int) : genU 4 k u = (if u.length < k then [oneB u] else []) ++ (if u = [] then [] else [preB u] ++ [sufB u]) := by unfold genU; by_cases h : u = [] <;> simp [h]
theorem genU_5 (k : Nat) (u : List Int) : genU 5 k u = (if u.length < k then [oneB u] else []) ++ (if u = [] then [] else [preB u] ++ ([sufB u] ++ [facB u])) := by unfold genU; by_cases h : u = [] <;> simp [h]
theorem genU_6 (k : Nat) (u : List Int) : genU 6 k u = (if u = [] then [] else [uB u]) := by unfold genU; by_cases h : u = [] <;> simp [h]
theorem ref_perm {kind : Int} {letters k : Nat} (h1 : 1 ≤ kind) (h7 : kind ≤ 7) (m : Nat) (hm : (allC (yL letters k) (m + 1)).length ≤ 301 ∨ kind ≠ 7) : (refL kind letters k m).Perm (famP kind letters k m) := by
 have hcase : kind = 1 ∨ kind = 2 ∨ kind = 3 ∨ kind = 4 ∨ kind = 5 ∨ kind = 6 ∨ kind = 7 := by omega
 have hone : ((yL letters k).flatMap fun u => if u.length < k then [oneB u] else []) = (upTo letters k).map oneB := by rw [flat_if (fun u : List Int => u.length < k) oneB, filter_short]
 rcases hcase with rfl | rfl | rfl | rfl | rfl | rfl | rfl
 ·have e : refL 1 letters k m = famP 1 letters k m := by
   rw [refL, if_neg (by decide), List.append_nil, genL, wH fun u _ => genU_1 k u, vO]; rfl
  rw [e]
 ·rw [refL, if_neg (by decide), List.append_nil, genL, wH fun u _ => genU_2 k u]
  refine (vR _ _ _).trans ?_
  rw [hone, lM, vO]; exact List.Perm.refl _
 ·rw [refL, if_neg (by decide), List.append_nil, genL, wH fun u _ => genU_3 k u]
  refine (vR _ _ _).trans ?_
  rw [hone, lM, vO]; exact List.Perm.refl _
 ·rw [refL, if_neg (by decide), List.append_nil, genL, wH fun u _ => genU_4 k u]
  refine (vR _ _ _).trans ?_
  rw [hone, lM]
  show List.Perm _ ((upTo letters k).map oneB ++ ((yL letters k).drop 1).map sufB ++ ((yL letters k).drop 1).map preB)
  rw [List.append_assoc]
  refine List.Perm.append_left _ ((vR _ _ _).trans ?_)
  rw [vO, vO]; exact List.perm_append_comm
 ·rw [refL, if_neg (by decide), List.append_nil, genL, wH fun u _ => genU_5 k u]
  refine (vR _ _ _).trans ?_
  rw [hone, lM]
  show List.Perm _ ((upTo letters k).map oneB ++ ((yL letters k).drop 1).map sufB ++ ((yL letters k).drop 1).map preB ++ ((yL letters k).drop 1).map facB)
  rw [List.append_assoc, List.append_assoc]
  refine List.Perm.append_left _ ((vR _ _ _).trans ?_)
  rw [vO]
  refine (List.Perm.append_left _ (vR _ _ _)).trans ?_
  rw [vO, vO, ← List.append_assoc, ← List.append_assoc]
  exact List.Perm.append_right _ List.perm_append_comm
 ·have e : refL 6 letters k m = famP 6 letters k m := by
   rw [refL, if_neg (by decide), List.append_nil, genL, wH fun u _ => genU_6 k u, lM, vO]; rfl
  rw [e]
 ·have e : refL 7 letters k m = famP 7 letters k m := by
   rw [refL, if_pos rfl, genL, wH fun u _ => genU_7 k u, vO, List.take_of_length_le (by rcases hm with h | h; exact h; exact absurd rfl h)]
   show _ = chL (yL letters k) (m + 1)
   rw [chL_all]
  rw [e]
theorem sortP_nodup {l : List (List (List Int))} (h : uA l) : l.Nodup := List.Pairwise.imp (fun {a b} h e => by rw [e, tL] at h; cases h) h
theorem ref_len {kind : Int} {letters k : Nat} (h1 : 1 ≤ kind) (h7 : kind ≤ 7) (m : Nat) : (300 < (refL kind letters k m).length ↔ 300 < (famP kind letters k m).length) := by
 by_cases hm : (allC (yL letters k) (m + 1)).length ≤ 301 ∨ kind ≠ 7
 ·rw [(ref_perm h1 h7 m hm).length_eq]
 ·have hm1 : ¬ (allC (yL letters k) (m + 1)).length ≤ 301 := fun h => hm (.inl h)
  have hk : kind = 7 := Decidable.not_not.1 fun h => hm (.inr h)
  subst hk
  have e1 : 301 ≤ (refL 7 letters k m).length := by
   rw [refL, if_pos rfl, List.length_append, List.length_take]; omega
  have e2 : 301 ≤ (famP 7 letters k m).length := by
   show 301 ≤ (chL (yL letters k) (m + 1)).length
   rw [chL_all, List.length_append]; omega
  omega
end Go.Proofs.Ytjfdomfendbhfaa
namespace Go.Proofs.Ytjfdomfendbhfaa
open Go.RowKit
theorem nQ {w : World} {base e g n c : Nat} {xs : List Value} (h : w.ownsRow base e 1 (.slice (some ⟨g, 0, none⟩) n c) n xs) (i : Nat) (u : Value) : (w.setCell ⟨g, i, none⟩ u).ownsRow base e 1 (.slice (some ⟨g, 0, none⟩) n c) n (xs.set i u) := by
 obtain ⟨h1, h2⟩ := h
 refine ⟨by simpa using h1, ?_⟩
 rcases h2 with ⟨e1, _⟩ | ⟨g', cap, cur, e1, hb, hg, hnc, hcm, hcs, htake⟩
 ·simp at e1
 ·simp only [Value.slice.injEq, Option.some.injEq, Addr.mk.injEq, and_true] at e1
  obtain ⟨rfl, _, rfl⟩ := e1
  refine .inr ⟨g, c, cur.setIfInBounds i u, rfl, hb, heap_setCell_same w g i _ _ u hg, hnc, hcm, by simpa using hcs, ?_⟩
  rw [← htake, Array.toList_setIfInBounds, List.take_set]
theorem wL.swap {α : Type} {B : Nat} {e : TypeId} {f : α → List Value} {w : World} {svs : List Value} {ps : List α} (h : wL B e f w svs ps) {i : Nat} {x y : Value} {p q : α} (hx : svs[i]? = some x) (hy : svs[i + 1]? = some y) (hp : ps[i]? = some p) (hq : ps[i + 1]? = some q) :
  wL B e f w ((svs.set i y).set (i + 1) x) ((ps.set i q).set (i + 1) p) := by
 obtain ⟨a1, rfl⟩ := List.getElem?_eq_some_iff.1 hx
 obtain ⟨a2, rfl⟩ := List.getElem?_eq_some_iff.1 hy
 obtain ⟨b1, rfl⟩ := List.getElem?_eq_some_iff.1 hp
 obtain ⟨b2, rfl⟩ := List.getElem?_eq_some_iff.1 hq
 refine ⟨by simpa using h.1, fun k h1 h2 => ?_⟩
 rw [List.getElem_set, List.getElem_set, List.getElem_set, List.getElem_set]
 by_cases e1 : i + 1 = k
 ·rw [if_pos e1, if_pos e1]; exact h.2 i a1 b1
 ·rw [if_neg e1, if_neg e1]
  by_cases e2 : i = k
  ·rw [if_pos e2, if_pos e2]; exact h.2 (i + 1) a2 b2
  ·rw [if_neg e2, if_neg e2]; exact h.2 k (by simpa using h1) (by simpa using h2)
theorem LUp.swap {e base g n c i : Nat} {w : World} {svs : List Value} {ps : List (List (List Int))} (h : LUp e base w (.slice (some ⟨g, 0, none⟩) n c) n svs ps) {x y : Value} {p q : List (List Int)} (hx : svs[i]? = some x) (hy : svs[i + 1]? = some y) (hp : ps[i]? = some p) (hq : ps[i + 1]? = some q)
  {W : World} (hW : W = (w.setCell ⟨g, i + 1, none⟩ x).setCell ⟨g, i, none⟩ y ∨ W = (w.setCell ⟨g, i, none⟩ y).setCell ⟨g, i + 1, none⟩ x) :
  LUp e base W (.slice (some ⟨g, 0, none⟩) n c) n ((svs.set i y).set (i + 1) x) ((ps.set i q).set (i + 1) p) ∧ w.grownBy W (some g) := by
 have hg : w.grownBy W (some g) := by
  rcases hW with rfl | rfl
  ·exact zE (zC w ⟨g, i + 1, none⟩ x) (zC _ ⟨g, i, none⟩ y)
  ·exact zE (zC w ⟨g, i, none⟩ y) (zC _ ⟨g, i + 1, none⟩ x)
 refine ⟨⟨?_, ?_, h.ne⟩, hg⟩
 ·rcases hW with rfl | rfl
  ·have h2 := nQ (nQ h.own (i + 1) x) i y
   rwa [List.set_comm _ _ (by omega)] at h2
  ·exact nQ (nQ h.own i y) (i + 1) x
 ·have hot := yQ h.own h.ne
  exact (((h.rows.swap hx hy hp hq).kept hg (fun k e => .inr (hot k (by rw [← e]; rfl)))).mono hg.size)
theorem LUp.drewN {e base n : Nat} {w : World} {v : Value} {svs : List Value} {ps : List (List (List Int))} (h : LUp e base w v n svs ps) : LUp e base w.drew v n svs ps := h.kept (zM w none) (by simp)
theorem LUp.at {base g n c i : Nat} {w : World} {svs : List Value} {ps : List (List (List Int))} (h : LUp 28 base w (.slice (some ⟨g, 0, none⟩) n c) n svs ps) (hi : i < n) :
  ∃ (a : Option Addr) (d : Nat) (p : List (List Int)), svs[i]? = some (.slice a p.length d) ∧ ps[i]? = some p ∧ w.cell? ⟨g, i, none⟩ = some (.slice a p.length d) ∧ RowT w.heap.size 9 w (.slice a p.length d) (strs p) := by
 have hl := h.own.1
 have hl2 := h.rows.1
 have hr := h.rows.2 i (by omega) (by omega)
 obtain ⟨a, d, e⟩ := hr.row.shape
 rw [xT] at e
 refine ⟨a, d, ps[i]'(by omega), by rw [← e]; exact List.getElem?_eq_getElem _, List.getElem?_eq_getElem _, ?_, by rw [← e]; exact hr⟩
 have := (RowT.of_owns h.own).row
 rcases this with ⟨a0, c0, e0, hx⟩ | ⟨b', off', cap', hv, _, _, _, hra⟩
 ·simp only [Value.slice.injEq] at e0; omega
 ·simp only [Value.slice.injEq, Option.some.injEq, Addr.mk.injEq, and_true] at hv
  obtain ⟨⟨rfl, rfl⟩, _⟩ := hv
  have hc := hra.2 i (by omega)
  rw [Nat.zero_add] at hc
  rw [hc, ← e]
def InsI (L ps : List (List (List Int))) (i j : Nat) : Prop := ∃ A x B C, ps = A ++ x :: (B ++ C) ∧ A.length = j ∧ A.length + B.length = i ∧ uA (A ++ B) ∧ (∀ b ∈ B, xI x b = true) ∧ ps.Perm L
theorem ins_start {L ps : List (List (List Int))} {i : Nat} (hs : uA (ps.take i)) (hi : i < ps.length) (hp : ps.Perm L) : InsI L ps i i :=
 ⟨ps.take i, ps[i], [], ps.drop (i + 1), by rw [List.nil_append, ← List.drop_eq_getElem_cons hi, List.take_append_drop], by simp; omega, by simp; omega, by simpa using hs, by simp, hp⟩
theorem swap_list {α : Type} (a x : α) (R : List α) : ∀ A : List α, ((A ++ a :: x :: R).set A.length x).set (A.length + 1) a = A ++ x :: a :: R
 | [] => rfl
 | b :: A => by have := swap_list a x R A; simp [this]
theorem kT {α : Type} {A : List α} {j : Nat} (h : A.length = j + 1) : ∃ A' a, A = A' ++ [a] ∧ A'.length = j := by
 have hne : A ≠ [] := by intro e; rw [e] at h; simp at h
 exact ⟨A.dropLast, A.getLast hne, (List.dropLast_concat_getLast hne).symm, by simp [h]⟩
theorem ins_step {L ps : List (List (List Int))} {i j : Nat} {p q : List (List Int)} (h : InsI L ps i (j + 1)) (hp : ps[j]? = some p) (hq : ps[j + 1]? = some q) (hl : xI q p = true) : InsI L ((ps.set j q).set (j + 1) p) i j := by
 obtain ⟨A, x, B, C, rfl, hA, hi, hs, hB, hperm⟩ := h
 obtain ⟨A', a, rfl, rfl⟩ := kT hA
 have e0 : A' ++ [a] ++ x :: (B ++ C) = A' ++ a :: x :: (B ++ C) := by simp
 rw [e0] at hp hq hperm ⊢
 have e1 : a = p := by rw [List.getElem?_append_right (Nat.le_refl _)] at hp; simpa using hp
 have e2 : x = q := by rw [List.getElem?_append_right (by omega)] at hq; simpa using hq
 subst e1; subst e2
 rw [swap_list]
 refine ⟨A', x, a :: B, C, by simp, rfl, by simp at hi ⊢; omega, by simpa using hs, ?_, (List.Perm.append_left A' (List.Perm.swap _ _ _)).trans hperm⟩
 intro b hb
 rcases List.mem_cons.1 hb with rfl | hb
 ·exact hl
 ·exact hB b hb
theorem nX {L ps : List (List (List Int))} {i j : Nat} (h : InsI L ps i j) (hn : L.Nodup) (hd : j = 0 ∨ ∃ k p q, j = k + 1 ∧ ps[k]? = some p ∧ ps[k + 1]? = some q ∧ xI q p = false) : uA (ps.take (i + 1)) ∧ ps.Perm L := by
 obtain ⟨A, x, B, C, rfl, hA, hi, hs, hB, hperm⟩ := h
 refine ⟨?_, hperm⟩
 have et : (A ++ x :: (B ++ C)).take (i + 1) = A ++ x :: B := by
  have e3 : A ++ x :: (B ++ C) = (A ++ x :: B) ++ C := by simp
  rw [e3, List.take_left' (by simp; omega)]
 rw [et]
 have hs2 := List.pairwise_append.1 hs
 have hnd := hperm.nodup_iff.2 hn
 have hAx : ∀ a ∈ A, xI a x = true := by
  rcases hd with rfl | ⟨k, p, q, rfl, hp, hq, hl⟩
  ·intro a ha; rw [List.eq_nil_of_length_eq_zero hA] at ha; simp at ha
  ·obtain ⟨A', a, rfl, rfl⟩ := kT hA
   have e0 : A' ++ [a] ++ x :: (B ++ C) = A' ++ a :: x :: (B ++ C) := by simp
   rw [e0] at hp hq hnd
   have e1 : a = p := by rw [List.getElem?_append_right (Nat.le_refl _)] at hp; simpa using hp
   have e2 : x = q := by rw [List.getElem?_append_right (by omega)] at hq; simpa using hq
   subst e1; subst e2
   have hne : a ≠ x := by
    have h3 := (List.pairwise_append.1 hnd).2.1
    have h4 := (List.pairwise_cons.1 h3).1 x (by simp)
    exact h4
   have hax : xI a x = true := by
    rcases lessP_total hne with h | h
    ·exact h
    ·rw [hl] at h; cases h
   intro b hb
   rcases List.mem_append.1 hb with hb | hb
   ·have h5 := (List.pairwise_append.1 hs2.1).2.2 b hb a (by simp)
    exact lL h5 hax
   ·have : b = a := by simpa using hb
    rw [this]; exact hax
 refine List.pairwise_append.2 ⟨hs2.1, List.pairwise_cons.2 ⟨hB, hs2.2.1⟩, fun a ha b hb => ?_⟩
 rcases List.mem_cons.1 hb with rfl | hb
 ·exact hAx a ha
 ·exact hs2.2.2 a ha b hb
theorem sorted_is {l m : List (List (List Int))} (h1 : uA l) (h2 : uA m) (h : l.Perm m) : l = m := lessP_ext h1 h2 fun _ => h.mem_iff
theorem pK (L i : Nat) : (upTo L (i + 2)).length = (upTo L (i + 1)).length + L ^ i * L := by
 rw [yY L (i + 1), List.length_append, wG, Nat.pow_succ]
theorem famP_ge {kind : Int} {L K : Nat} (M : Nat) : (yL L K).length ≤ (famP kind L K M).length + 1 := by
 unfold famP
 simp only
 split
 ·rw [List.length_map]; omega
 split
 ·simp only [List.length_append, List.length_map, List.length_drop]; omega
 split
 ·simp only [List.length_append, List.length_map, List.length_drop]; omega
 split
 ·simp only [List.length_append, List.length_map, List.length_drop]; omega
 split
 ·simp only [List.length_append, List.length_map, List.length_drop]; omega
 split
 ·simp only [List.length_append, List.length_map, List.length_drop]; omega
 ·rw [chL_all, List.length_append, List.length_map]; omega
theorem pX {kind : Int} {L K M : Nat} (ho : qY kind L K M = true) (h : (kind = 6 ∧ 8 < (K : Int) + 2) ∨ 300 < sizeV kind L K M) : famE kind L K M = 3 ∧ famL kind L K M = [] := by
 have e1 : famE kind L K M = 3 := by rw [famE, if_neg (by rw [ho]; simp), if_pos (h.imp id (fun hs => by simpa using hs))]
 exact ⟨e1, by rw [famL, e1]; rfl⟩
theorem jM {kind : Int} {L K M : Nat} (ho : qY kind L K M = true) (h6 : ¬ (kind = 6 ∧ 8 < (K : Int) + 2)) (h : ¬ 300 < sizeV kind L K M) : famE kind L K M = 0 ∧ famL kind L K M = famP kind L K M := by
 have e1 : famE kind L K M = 0 := by
  rw [famE, if_neg (by rw [ho]; simp), if_neg]
  rintro (h1 | h1)
  ·exact h6 h1
  ·exact h (by simpa using h1)
 exact ⟨e1, by rw [famL, e1]; simp⟩
theorem if_len {α : Type} {c : Prop} [Decidable c] (x : α) : (if c then [x] else []).length ≤ 1 := by split <;> simp
theorem genU_len (kind : Int) (k : Nat) (u : List Int) : (genU kind k u).length ≤ 5 := by
 unfold genU
 rw [List.length_append]
 have h1 := if_len (c := kind = 1 ∨ kind = 7 ∨ (kind ≠ 6 ∧ u.length < k)) (oneB u)
 by_cases hu : u = []
 ·rw [if_pos hu, List.length_nil]; omega
 ·rw [if_neg hu]
  rw [List.length_append, List.length_append, List.length_append]
  have h2 := if_len (c := kind = 2 ∨ kind = 4 ∨ kind = 5) (preB u)
  have h3 := if_len (c := kind = 3 ∨ kind = 4 ∨ kind = 5) (sufB u)
  have h4 := if_len (c := kind = 5) (facB u)
  have h5 := if_len (c := kind = 6) (uB u)
  omega
theorem genL_len (kind : Int) (k : Nat) : ∀ W : List (List Int), (genL kind k W).length ≤ 5 * W.length
 | [] => by simp [genL]
 | u :: W => by
  have := genL_len kind k W
  have := genU_len kind k u
  simp only [genL, List.flatMap_cons, List.length_append, List.length_cons] at *
  omega
theorem grown_iterAt (w : World) (k : Nat) (s : ByteArray) (pos : Nat) : w.grownBy (w.iterAt k s pos) (some k) :=
 ⟨rfl, rfl, rfl, by rw [Lib.iterAt_size]; exact Nat.le_refl _, fun i _ hne => Lib.iterAt_other w k i s pos (fun e => hne (by rw [e]))⟩
theorem wL.one {w : World} {B : Nat} {e : TypeId} {svs : List Value} {ps : List (List (List Int))} (h : wL B e strs w svs ps) : ∀ u ∈ svs, u.oneCell' = true := by
 intro u hu
 obtain ⟨i, hi, rfl⟩ := List.mem_iff_getElem.1 hu
 have hl := h.1
 obtain ⟨a, c, e⟩ := (h.2 i hi (by omega)).row.shape
 rw [e]; rfl
theorem mC {L K r : Nat} (h : r < (yL L K).length) : ((yL L K)[r] = [] ↔ r = 0) := by
 obtain ⟨t, e, ht⟩ := mE L K
 have e' : yL L K = [] :: t := e
 constructor
 ·intro h0
  rcases r with _ | r
  ·rfl
  ·exfalso
   simp only [e', List.getElem_cons_succ] at h0
   exact ht _ (List.getElem_mem _) h0
 ·rintro rfl
  simp only [e', List.getElem_cons_zero]
theorem mB {L K : Nat} (h6 : K ≤ 8) {u : List Int} (hu : u ∈ yL L K) : u.length ≤ 8 := upTo_len8 (n := K + 1) (by omega) hu
theorem okB {letters : Nat} (h : letters ≤ 6) {n : Nat} {u : List Int} (hu : u ∈ upTo letters n) : okW u := by
 simp only [upTo, List.mem_flatMap, List.mem_range] at hu
 obtain ⟨m, _, hu⟩ := hu
 intro x hx
 have := (uU hu).2 x hx
 unfold okNum at *
 omega
def okP (p : List (List Int)) : Prop := p.length ≤ 100 ∧ ∀ u ∈ p, okW u ∧ u.length ≤ 8
theorem okW_nil : okW [] := fun x hx => by simp at hx
theorem genU_cases {kind : Int} {k : Nat} {u : List Int} {p : List (List Int)} (hp : p ∈ genU kind k u) : p = oneB u ∨ p = preB u ∨ p = sufB u ∨ p = facB u ∨ p = uB u := by
 unfold genU at hp
 rw [List.mem_append] at hp
 rcases hp with hp | hp
 ·split at hp
  ·exact .inl (by simpa using hp)
  ·simp at hp
 ·by_cases hu : u = []
  ·rw [if_pos hu] at hp; simp at hp
  ·rw [if_neg hu, List.mem_append, List.mem_append, List.mem_append] at hp
   rcases hp with hp | hp | hp | hp
   ·split at hp
    ·exact .inr (.inl (by simpa using hp))
    ·simp at hp
   ·split at hp
    ·exact .inr (.inr (.inl (by simpa using hp)))
    ·simp at hp
   ·split at hp
    ·exact .inr (.inr (.inr (.inl (by simpa using hp))))
    ·simp at hp
   ·split at hp
    ·exact .inr (.inr (.inr (.inr (by simpa using hp))))
    ·simp at hp
theorem genU_ok {kind : Int} {k : Nat} {u : List Int} (h : okW u) (h8 : u.length ≤ 8) {p : List (List Int)} (hp : p ∈ genU kind k u) : okP p := by
 have hn : okW [] ∧ ([] : List Int).length ≤ 8 := ⟨okW_nil, by simp⟩
 rcases genU_cases hp with rfl | rfl | rfl | rfl | rfl
 ·refine ⟨by simp [oneB], fun x hx => ?_⟩
  simp only [oneB, List.mem_singleton] at hx
  subst hx; exact ⟨h, h8⟩
 ·refine ⟨by simp [preB], fun x hx => ?_⟩
  simp only [preB, List.mem_cons, List.not_mem_nil, or_false] at hx
  rcases hx with rfl | rfl
  ·exact ⟨h, h8⟩
  ·exact hn
 ·refine ⟨by simp [sufB], fun x hx => ?_⟩
  simp only [sufB, List.mem_cons, List.not_mem_nil, or_false] at hx
  rcases hx with rfl | rfl
  ·exact hn
  ·exact ⟨h, h8⟩
 ·refine ⟨by simp [facB], fun x hx => ?_⟩
  simp only [facB, List.mem_cons, List.not_mem_nil, or_false] at hx
  rcases hx with rfl | rfl | rfl
  ·exact hn
  ·exact ⟨h, h8⟩
  ·exact hn
 ·refine ⟨by simp [uB]; omega, fun x hx => ?_⟩
  simp only [uB, List.mem_append, List.mem_singleton, List.mem_map] at hx
  rcases hx with (rfl | ⟨c, hc, rfl⟩) | rfl
  ·exact hn
  ·refine ⟨fun y hy => ?_, by simp⟩
   simp only [List.mem_singleton] at hy
   subst hy; exact h y hc
  ·exact hn
theorem chB_blk (ws : List (List Int)) : ∀ (i : Nat) {b : List (List Int)}, b ∈ chB ws i → ∀ u ∈ b, u ∈ ws
 | 0, b, h => by
  obtain ⟨v, hv, rfl⟩ := List.mem_map.1 h
  intro u hu
  simp only [oneB, List.mem_singleton] at hu
  subst hu; exact hv
 | i + 1, b, h => by
  obtain ⟨c, hc, hb⟩ := List.mem_flatMap.1 h
  obtain ⟨v, hv, rfl⟩ := List.mem_map.1 hb
  intro u hu
  rcases List.mem_append.1 hu with hu | hu
  ·exact chB_blk ws i hc u hu
  ·simp only [List.mem_singleton] at hu
   subst hu; exact List.mem_of_mem_drop hv
theorem allC_blk (ws : List (List Int)) : ∀ (i : Nat) {b : List (List Int)}, b ∈ allC ws i → b.length ≤ i + 1 ∧ ∀ u ∈ b, u ∈ ws
 | 0, b, h => by simp [allC] at h
 | i + 1, b, h => by
  rcases List.mem_append.1 h with h | h
  ·exact ⟨by have := (allC_blk ws i h).1; omega, (allC_blk ws i h).2⟩
  ·obtain ⟨c, hc, hb⟩ := List.mem_flatMap.1 h
   obtain ⟨v, hv, rfl⟩ := List.mem_map.1 hb
   refine ⟨by rw [List.length_append, kF i hc]; simp, fun u hu => ?_⟩
   rcases List.mem_append.1 hu with hu | hu
   ·exact chB_blk ws i hc u hu
   ·simp only [List.mem_singleton] at hu
    subst hu; exact hv
theorem refL_ok {kind : Int} {L K M : Nat} (hl : L ≤ 6) (hk : K ≤ 8) (hm : M ≤ 4) {p : List (List Int)} (hp : p ∈ refL kind L K M) : okP p := by
 have hw : ∀ u ∈ yL L K, okW u ∧ u.length ≤ 8 := fun u hu => ⟨okB hl (n := K + 1) hu, mB hk hu⟩
 rcases List.mem_append.1 hp with hp | hp
 ·obtain ⟨u, hu, hp⟩ := List.mem_flatMap.1 hp
  exact genU_ok (hw u hu).1 (hw u hu).2 hp
 ·split at hp
  ·have h := allC_blk _ _ (List.mem_of_mem_take hp)
   exact ⟨by omega, fun u hu => hw u (h.2 u hu)⟩
  ·simp at hp
theorem kV {kind : Int} {L K M : Nat} (h1 : 1 ≤ kind) (h7 : kind ≤ 7) (hn : ¬ 300 < (refL kind L K M).length) {ps : List (List (List Int))} (hs : uA ps) (hp : ps.Perm (refL kind L K M)) : ps = famP kind L K M := by
 refine sorted_is hs (lQ _ _ _ _) (hp.trans (ref_perm h1 h7 M ?_))
 by_cases hk : kind = 7
 ·refine .inl ?_
  rw [refL, if_pos hk, List.length_append, List.length_take] at hn
  omega
 ·exact .inr hk
theorem ref_nodup {kind : Int} {L K M : Nat} (h1 : 1 ≤ kind) (h7 : kind ≤ 7) (hn : ¬ 300 < (refL kind L K M).length) : (refL kind L K M).Nodup := by
 have hp : (refL kind L K M).Perm (famP kind L K M) := by
  refine ref_perm h1 h7 M ?_
  by_cases hk : kind = 7
  ·refine .inl ?_
   rw [refL, if_pos hk, List.length_append, List.length_take] at hn
   omega
  ·exact .inr hk
 exact hp.nodup_iff.2 (sortP_nodup (lQ _ _ _ _))
theorem str_byte (u : List Int) (p : Nat) (h : p < u.length) (h' : p < (strOfNums u).size) : (strOfNums u)[p]'h' = UInt8.ofNat (u[p].toNat) := by
 have e : (strOfNums u)[p]'h' = (strOfNums u).data.toList[p]'(by rw [strOfNums_data]; simpa using h) := by rw [Array.getElem_toList]; rfl
 rw [e]
 simp only [strOfNums_data, List.getElem_map]
theorem str_ascii {u : List Int} (hu : okW u) {p : Nat} (h : p < u.length) (h' : p < (strOfNums u).size) : ((strOfNums u)[p]'h').toNat < 128 := by
 obtain ⟨a, b⟩ := hu _ (List.getElem_mem h)
 rw [str_byte u p h h', UInt8.toNat_ofNat']; omega
theorem nA {w : World} {B e size n : Nat} {v : Value} {xs : List Value} {k : Nat} {s : ByteArray} {pos : Nat} (h : w.ownsRow B e size v n xs) (hk : w.heap[k]? = some (.stringIter s pos)) : some k ≠ v.ownBlock := by
 rcases h.2 with ⟨rfl, _⟩ | ⟨g, cap, cur, rfl, hb, hg, _⟩
 ·simp [Value.ownBlock]
 ·intro e
  simp only [Value.ownBlock, Option.some.injEq] at e
  subst e
  rw [hk] at hg
  cases hg
set_option maxRecDepth 100000 in
set_option maxHeartbeats 4000000 in
theorem rfam5_any (L K M : Nat) (w : World) (hl1 : 1 ≤ L) (hl6 : L ≤ 6) (hk1 : 1 ≤ K) (hk8 : K ≤ 8) (hm : M = 0) :
  Calls Try.prog 45 #[.int .i64 5, .int .i64 L, .int .i64 K, .int .i64 M] w (rT w (famE 5 L K M) (famL 5 L K M)) := by
 have HML := Kh (yT w (L : Int))
 rw [decide_eq_true (show 1 ≤ (L : Int) ∧ (L : Int) ≤ 6 by omega)] at HML
 have ho : qY 5 L K M = true := by simp [qY]; omega
 have HO := Kh ho
 have HSZ := Kh (size_is (kind := 5) (letters := L) (k := K) (m := M) (by decide) (by decide) hl1 (fun _ => by omega))
 have HRL := Kh (ref_len (kind := 5) (letters := L) (k := K) (by decide) (by decide) M)
 have HGE := Kh (famP_ge (kind := 5) (L := L) (K := K) M)
 have hm1 : ((M : Int) != 0) = false := by rw [hm]; rfl
 clear ho
 skip
 have HUB : Hid (∀ i, i ≤ K → (upTo L (i + 1)).length ≤ 20000000) := Kh (fun i hi => by have := qS L hl6 (i + 1) (by omega); omega)
 go_enter Try.func45, Try.ntmps45
 go_wp2_with fail
 refine HML.out.mono ?_
 rintro e w ⟨rfl, rfl⟩
 go_wp2
 go_loopg [11, 12, 13] K (fun gh vc vi vp wr => ∃ i : Nat, gh + i = K ∧ vc = .int .i64 (((upTo L (i + 1)).length : Nat) : Int) ∧ vi = .int .i64 (i : Int) ∧ vp = .int .i64 ((L ^ i : Nat) : Int) ∧ w = wr)
 case atStart => exact ⟨0, rfl, by rw [yY, List.length_append, wG]; simp [upTo], rfl, rfl, rfl⟩
 case round =>
  obtain ⟨i, hgh, rfl, rfl, rfl, rfl⟩ := hrel
  have HGH := Kh hgh
  clear hgh
  have hb1 := HUB.out i (by have := HGH.out; omega)
  by_cases hlt : i < K
  ·have hlt' : (i : Int) < (K : Int) := by omega
   have hb2 := HUB.out (i + 1) (by omega)
   have hst := pK L i
   rw [hst] at hb2
   have HST := Kh hst
   obtain ⟨CN, hCN⟩ : ∃ CN, CN = (upTo L (i + 1)).length := ⟨_, rfl⟩
   obtain ⟨PW, hPW⟩ : ∃ PW, PW = L ^ i := ⟨_, rfl⟩
   obtain ⟨P2, hP2⟩ : ∃ P2, P2 = L ^ i * L := ⟨_, rfl⟩
   have hmul : (PW : Int) * (L : Int) = (P2 : Int) := by rw [hP2, hPW]; push_cast; rfl
   have HS2 : Hid ((upTo L (i + 1 + 1)).length = CN + P2 ∧ L ^ (i + 1) = P2) := Kh ⟨by rw [HST.out, hCN, hP2], by rw [hP2, Nat.pow_succ]⟩
   rw [← hP2, ← hCN] at hb2
   rw [← hCN, ← hPW]
   clear hst hCN hPW hP2 hb1
   go_wp2
   go_roundg (K - (i + 1))
   case measure => have := HGH.out; omega
   case rel => exact ⟨i + 1, by have := HGH.out; omega, by rw [HS2.out.1]; go_num, by go_num, by rw [HS2.out.2], rfl⟩
  ·obtain rfl : i = K := by have := HGH.out; omega
   clear hlt HUB
   obtain ⟨ws, hws⟩ : ∃ ws, ws = yL L i := ⟨_, rfl⟩
   have HWS := Kh hws
   have hwe : upTo L (i + 1) = ws := hws.symm
   rw [hwe] at hb1 ⊢
   have HGE2 : Hid (ws.length ≤ (famP 5 L i M).length + 1) := Kh (by rw [hws]; exact HGE.out)
   have hw1 : 1 ≤ ws.length := by rw [hws]; exact jW hl1
   have H2W : Hid (1 ≤ i → 2 ≤ ws.length) := Kh (fun h => by rw [hws]; exact upTo_two hl1 h)
   have HWN : Hid (∀ r (h : r < ws.length), (ws[r] = [] ↔ r = 0)) := Kh (by subst hws; exact fun r h => mC h)
   have HW8 : Hid (∀ u ∈ ws, u.length ≤ 8) := Kh (by subst hws; exact fun u hu => mB hk8 hu)
   have HOW : Hid (∀ u ∈ ws, okW u) := Kh (by subst hws; exact fun u hu => okB hl6 (n := i + 1) hu)
   have HUP : Hid (ws.length ≤ 301 → Calls Try.prog 76 #[.int .i64 L, .int .i64 i] w (Listed w ws)) := Kh (fun h => by rw [← hwe]; exact upto_any L i w hl1 hl6 hk8 (by rw [hwe]; omega))
   clear hws hwe
   by_cases hbig : 300 < (ws.length : Int) - 1
   ·have h3 := pX HO.out (.inr (HSZ.out.2 (by have := HGE2.out; omega)))
    have H3 := Kh h3
    clear h3
    go_wp2
    refine bodyPost_ret (v := .tuple #[.slice none 0 0, .int .i64 3]) (by simp [results, Try.results45, go_sem]) rfl ?_
    rw [H3.out.1, H3.out.2]
    exact rT.nil (zK _ _)
   have HUP2 := Kh (HUP.out (by omega))
   clear HUP
   go_wp2_with fail
   refine HUP2.out.mono ?_
   rintro e w1 ⟨sa, sc, rfl, hrow, hg1⟩
   obtain ⟨b, off, rfl, hc1, hc2⟩ := kO hrow (by omega)
   have hc3 : sc ≤ 9223372036854775807 := by unfold maxLen at hc2; omega
   have hw301 : ws.length ≤ 301 := by omega
   clear HUP2 hc2 hbig
   obtain ⟨ba, hba⟩ : ∃ ba, ba = w1.heap.size := ⟨_, rfl⟩
   rw [← hba] at hrow
   have hbz : ba ≤ w1.heap.size := by omega
   have hwba : w.heap.size ≤ ba := by rw [hba]; exact hg1.size
   clear hba
   go_wp2
   go_loopw [15, 90] (fun v iv wr => ∃ (j n : Nat) (sl : Option Addr) (c : Nat) (svs : List Value), iv = .int .i64 (j : Int) ∧ j ≤ ws.length ∧ v = .slice sl n c ∧
     LUp 28 ba wr (.slice sl n c) n svs (genL 5 i (ws.take j)) ∧ RowT ba 9 wr (.slice (some ⟨b, off, none⟩) ws.length sc) (strs ws) ∧ w.grownBy wr none ∧ ba ≤ wr.heap.size)
    (fun _ iv _ => ws.length - (intOf iv).toNat)
   case atStart => exact ⟨0, 0, none, 0, [], rfl, Nat.zero_le _, rfl, by simpa [genL] using LUp.nil (by decide) _ _, hrow, hg1, hbz⟩
   case round =>
    clear hrow hg1 hbz
    obtain ⟨j, n, sl, c, svs, rfl, hj, rfl, hlp, hT, hg, hbz⟩ := hrel
    obtain ⟨wo, rfl⟩ : ∃ wo : World, wo = wr := ⟨_, rfl⟩
    have hn : n ≤ 1600 := by
     have h1 := hlp.len
     have h2 := genL_len 5 i (ws.take j)
     rw [List.length_take] at h2; omega
    have HLP := Kh hlp
    clear hlp
    by_cases hlt : j < ws.length
    ·have hlt' : (j : Int) < ws.length := by omega
     have hcell := word_cell hT hlt
     have hu8 := HW8.out _ (List.getElem_mem hlt)
     have hsn := genL_snoc 5 i hlt
     obtain ⟨u, hu2⟩ : ∃ u, u = ws[j] := ⟨_, rfl⟩
     rw [← hu2] at hcell hu8 hsn
     rw [genU_5] at hsn
     have HU := Kh hu2; have HSN := Kh hsn
     clear hu2 hsn
     have hsu : (strOfNums u).size = u.length := strOfNums_size u
     have hemp := emptyB u
     by_cases hsh : u.length < i
     ·have hsh2 : (u.length : Int) < (i : Int) := by omega
      have HSH := Kh hsh; have HE := Kh hemp
      by_cases he : u = []
      ·have hemp2 : (strOfNums u).toList.isEmpty = true := by rw [hemp, he]; rfl
       clear hemp
       have HEM := Kh he
       clear he hsh
       rw [if_pos HSH.out, if_pos HEM.out] at HSN
       have hol := HLP.out.own.alloc (.cells #[.string (strOfNums u)] 9)
       go_wp2_with (at_builtin; refine app1 rfl (.tmp 110) (.tmp 114) _ rfl uJ ba _ n svs rfl hol _ (by rw [zN]; rfl) rfl ?c1 ?c2 ?c3 ?_)
       case c1 => unfold maxLen; omega
       case c2 => omega
       case c3 => first | omega | (rw [zN]; omega)
       intro sl1 c1 wp1 hown3 hg3 _
       obtain ⟨hp3, hg4⟩ := (PatsUp.mk HLP.out.own HLP.out.rows).push (us := oneB u) (cs := #[.string (strOfNums u)]) (q := 1) rfl rfl (by unfold maxLen; omega) hown3 hg3
       have hb3 := fun q (e : (Value.slice sl n c).ownBlock = some q) => (HLP.out.own.lt q e).1
       have hT' := hT.kept hg4 (fun q e => .inl (hb3 q e))
       have hg' := zA hg hg4 (fun q e => by have := hb3 q e; omega)
       have hbz' : ba ≤ wp1.heap.size := by have := hg4.size; omega
       have HLP' := Kh (LUp.ofPats hp3)
       clear hown3 hg3 hol hg4 hp3 hT hg hb3 hbz HLP hcell
       have hT := hT'; have hg := hg'; have hbz := hbz'; have HLP := HLP'
       clear hT' hg' hbz' HLP'
       obtain ⟨svs1, hsv⟩ : ∃ svs1, svs1 = svs ++ [Value.slice (some ⟨wo.heap.size, 0, none⟩) 1 1] := ⟨_, rfl⟩
       rw [← hsv] at HLP
       clear hsv
       go_wp2
       go_roundw
       case rel => exact ⟨j + 1, _, sl1, c1, _, by go_num, by omega, rfl, by rw [HSN.out]; simpa using HLP.out, hT, hg, hbz⟩
       case measure => simp [intOf]; omega
      ·have hemp2 : (strOfNums u).toList.isEmpty = false := by rw [hemp, List.isEmpty_eq_false_iff]; exact he
       clear hemp
       have HEM := Kh he
       clear he hsh
       rw [if_pos HSH.out, if_neg HEM.out] at HSN
       have hol := HLP.out.own.alloc (.cells #[.string (strOfNums u)] 9)
       go_wp2_with (at_builtin; refine app1 rfl (.tmp 110) (.tmp 114) _ rfl uJ ba _ n svs rfl hol _ (by rw [zN]; rfl) rfl ?c1 ?c2 ?c3 ?_)
       case c1 => unfold maxLen; omega
       case c2 => omega
       case c3 => first | omega | (rw [zN]; omega)
       intro sl1 c1 wp1 hown3 hg3 _
       obtain ⟨hp3, hg4⟩ := (PatsUp.mk HLP.out.own HLP.out.rows).push (us := oneB u) (cs := #[.string (strOfNums u)]) (q := 1) rfl rfl (by unfold maxLen; omega) hown3 hg3
       have hb3 := fun q (e : (Value.slice sl n c).ownBlock = some q) => (HLP.out.own.lt q e).1
       have hT' := hT.kept hg4 (fun q e => .inl (hb3 q e))
       have hg' := zA hg hg4 (fun q e => by have := hb3 q e; omega)
       have hbz' : ba ≤ wp1.heap.size := by have := hg4.size; omega
       have HLP' := Kh (LUp.ofPats hp3)
       clear hown3 hg3 hol hg4 hp3 hT hg hb3 hbz HLP hcell
       have hT := hT'; have hg := hg'; have hbz := hbz'; have HLP := HLP'
       clear hT' hg' hbz' HLP'
       obtain ⟨svs1, hsv⟩ : ∃ svs1, svs1 = svs ++ [Value.slice (some ⟨wo.heap.size, 0, none⟩) 1 1] := ⟨_, rfl⟩
       rw [← hsv] at HLP
       clear hsv
       have hol := HLP.out.own.alloc (.cells #[.string (strOfNums u), .string ⟨#[]⟩] 9)
       go_wp2_with (at_builtin; refine app1 rfl (.tmp 128) (.tmp 132) _ rfl uJ ba _ (n + 1) svs1 rfl hol _ (by rw [zN]; rfl) rfl ?c1 ?c2 ?c3 ?_)
       case c1 => unfold maxLen; omega
       case c2 => omega
       case c3 => first | omega | (rw [zN]; omega)
       intro sl2 c2 wp2 hown3 hg3 _
       obtain ⟨hp3, hg4⟩ := (PatsUp.mk HLP.out.own HLP.out.rows).push (us := preB u) (cs := #[.string (strOfNums u), .string ⟨#[]⟩]) (q := 2) rfl rfl (by unfold maxLen; omega) hown3 hg3
       have hb3 := fun q (e : (Value.slice sl1 (n + 1) c1).ownBlock = some q) => (HLP.out.own.lt q e).1
       have hT' := hT.kept hg4 (fun q e => .inl (hb3 q e))
       have hg' := zA hg hg4 (fun q e => by have := hb3 q e; omega)
       have hbz' : ba ≤ wp2.heap.size := by have := hg4.size; omega
       have HLP' := Kh (LUp.ofPats hp3)
       clear hown3 hg3 hol hg4 hp3 hT hg hb3 hbz HLP 
       have hT := hT'; have hg := hg'; have hbz := hbz'; have HLP := HLP'
       clear hT' hg' hbz' HLP'
       obtain ⟨svs2, hsv⟩ : ∃ svs2, svs2 = svs1 ++ [Value.slice (some ⟨wp1.heap.size, 0, none⟩) 2 2] := ⟨_, rfl⟩
       rw [← hsv] at HLP
       clear hsv
       have hol := HLP.out.own.alloc (.cells #[.string ⟨#[]⟩, .string (strOfNums u)] 9)
       go_wp2_with (at_builtin; refine app1 rfl (.tmp 144) (.tmp 148) _ rfl uJ ba _ ((n + 1) + 1) svs2 rfl hol _ (by rw [zN]; rfl) rfl ?c1 ?c2 ?c3 ?_)
       case c1 => unfold maxLen; omega
       case c2 => omega
       case c3 => first | omega | (rw [zN]; omega)
       intro sl3 c3 wp3 hown3 hg3 _
       obtain ⟨hp3, hg4⟩ := (PatsUp.mk HLP.out.own HLP.out.rows).push (us := sufB u) (cs := #[.string ⟨#[]⟩, .string (strOfNums u)]) (q := 2) rfl rfl (by unfold maxLen; omega) hown3 hg3
       have hb3 := fun q (e : (Value.slice sl2 ((n + 1) + 1) c2).ownBlock = some q) => (HLP.out.own.lt q e).1
       have hT' := hT.kept hg4 (fun q e => .inl (hb3 q e))
       have hg' := zA hg hg4 (fun q e => by have := hb3 q e; omega)
       have hbz' : ba ≤ wp3.heap.size := by have := hg4.size; omega
       have HLP' := Kh (LUp.ofPats hp3)
       clear hown3 hg3 hol hg4 hp3 hT hg hb3 hbz HLP 
       have hT := hT'; have hg := hg'; have hbz := hbz'; have HLP := HLP'
       clear hT' hg' hbz' HLP'
       obtain ⟨svs3, hsv⟩ : ∃ svs3, svs3 = svs2 ++ [Value.slice (some ⟨wp2.heap.size, 0, none⟩) 2 2] := ⟨_, rfl⟩
       rw [← hsv] at HLP
       clear hsv
       have hol := HLP.out.own.alloc (.cells #[.string ⟨#[]⟩, .string (strOfNums u), .string ⟨#[]⟩] 9)
       go_wp2_with (at_builtin; refine app1 rfl (.tmp 152) (.tmp 156) _ rfl uJ ba _ (((n + 1) + 1) + 1) svs3 rfl hol _ (by rw [zN]; rfl) rfl ?c1 ?c2 ?c3 ?_)
       case c1 => unfold maxLen; omega
       case c2 => omega
       case c3 => first | omega | (rw [zN]; omega)
       intro sl4 c4 wp4 hown3 hg3 _
       obtain ⟨hp3, hg4⟩ := (PatsUp.mk HLP.out.own HLP.out.rows).push (us := facB u) (cs := #[.string ⟨#[]⟩, .string (strOfNums u), .string ⟨#[]⟩]) (q := 3) rfl rfl (by unfold maxLen; omega) hown3 hg3
       have hb3 := fun q (e : (Value.slice sl3 (((n + 1) + 1) + 1) c3).ownBlock = some q) => (HLP.out.own.lt q e).1
       have hT' := hT.kept hg4 (fun q e => .inl (hb3 q e))
       have hg' := zA hg hg4 (fun q e => by have := hb3 q e; omega)
       have hbz' : ba ≤ wp4.heap.size := by have := hg4.size; omega
       have HLP' := Kh (LUp.ofPats hp3)
       clear hown3 hg3 hol hg4 hp3 hT hg hb3 hbz HLP 
       have hT := hT'; have hg := hg'; have hbz := hbz'; have HLP := HLP'
       clear hT' hg' hbz' HLP'
       obtain ⟨svs4, hsv⟩ : ∃ svs4, svs4 = svs3 ++ [Value.slice (some ⟨wp3.heap.size, 0, none⟩) 3 3] := ⟨_, rfl⟩
       rw [← hsv] at HLP
       clear hsv
       go_wp2
       go_roundw
       case rel => exact ⟨j + 1, _, sl4, c4, _, by go_num, by omega, rfl, by rw [HSN.out]; simpa using HLP.out, hT, hg, hbz⟩
       case measure => simp [intOf]; omega
     ·have hsh2 : ¬ (u.length : Int) < (i : Int) := by omega
      have HSH := Kh hsh; have HE := Kh hemp
      by_cases he : u = []
      ·have hemp2 : (strOfNums u).toList.isEmpty = true := by rw [hemp, he]; rfl
       clear hemp
       have HEM := Kh he
       clear he hsh
       rw [if_neg HSH.out, if_pos HEM.out] at HSN
       go_wp2
       go_roundw
       case rel => exact ⟨j + 1, _, sl, c, _, by go_num, by omega, rfl, by rw [HSN.out]; simpa using HLP.out, hT, hg, hbz⟩
       case measure => simp [intOf]; omega
      ·have hemp2 : (strOfNums u).toList.isEmpty = false := by rw [hemp, List.isEmpty_eq_false_iff]; exact he
       clear hemp
       have HEM := Kh he
       clear he hsh
       rw [if_neg HSH.out, if_neg HEM.out] at HSN
       have hol := HLP.out.own.alloc (.cells #[.string (strOfNums u), .string ⟨#[]⟩] 9)
       go_wp2_with (at_builtin; refine app1 rfl (.tmp 128) (.tmp 132) _ rfl uJ ba _ n svs rfl hol _ (by rw [zN]; rfl) rfl ?c1 ?c2 ?c3 ?_)
       case c1 => unfold maxLen; omega
       case c2 => omega
       case c3 => first | omega | (rw [zN]; omega)
       intro sl1 c1 wp1 hown3 hg3 _
       obtain ⟨hp3, hg4⟩ := (PatsUp.mk HLP.out.own HLP.out.rows).push (us := preB u) (cs := #[.string (strOfNums u), .string ⟨#[]⟩]) (q := 2) rfl rfl (by unfold maxLen; omega) hown3 hg3
       have hb3 := fun q (e : (Value.slice sl n c).ownBlock = some q) => (HLP.out.own.lt q e).1
       have hT' := hT.kept hg4 (fun q e => .inl (hb3 q e))
       have hg' := zA hg hg4 (fun q e => by have := hb3 q e; omega)
       have hbz' : ba ≤ wp1.heap.size := by have := hg4.size; omega
       have HLP' := Kh (LUp.ofPats hp3)
       clear hown3 hg3 hol hg4 hp3 hT hg hb3 hbz HLP hcell
       have hT := hT'; have hg := hg'; have hbz := hbz'; have HLP := HLP'
       clear hT' hg' hbz' HLP'
       obtain ⟨svs1, hsv⟩ : ∃ svs1, svs1 = svs ++ [Value.slice (some ⟨wo.heap.size, 0, none⟩) 2 2] := ⟨_, rfl⟩
       rw [← hsv] at HLP
       clear hsv
       have hol := HLP.out.own.alloc (.cells #[.string ⟨#[]⟩, .string (strOfNums u)] 9)
       go_wp2_with (at_builtin; refine app1 rfl (.tmp 144) (.tmp 148) _ rfl uJ ba _ (n + 1) svs1 rfl hol _ (by rw [zN]; rfl) rfl ?c1 ?c2 ?c3 ?_)
       case c1 => unfold maxLen; omega
       case c2 => omega
       case c3 => first | omega | (rw [zN]; omega)
       intro sl2 c2 wp2 hown3 hg3 _
       obtain ⟨hp3, hg4⟩ := (PatsUp.mk HLP.out.own HLP.out.rows).push (us := sufB u) (cs := #[.string ⟨#[]⟩, .string (strOfNums u)]) (q := 2) rfl rfl (by unfold maxLen; omega) hown3 hg3
       have hb3 := fun q (e : (Value.slice sl1 (n + 1) c1).ownBlock = some q) => (HLP.out.own.lt q e).1
       have hT' := hT.kept hg4 (fun q e => .inl (hb3 q e))
       have hg' := zA hg hg4 (fun q e => by have := hb3 q e; omega)
       have hbz' : ba ≤ wp2.heap.size := by have := hg4.size; omega
       have HLP' := Kh (LUp.ofPats hp3)
       clear hown3 hg3 hol hg4 hp3 hT hg hb3 hbz HLP 
       have hT := hT'; have hg := hg'; have hbz := hbz'; have HLP := HLP'
       clear hT' hg' hbz' HLP'
       obtain ⟨svs2, hsv⟩ : ∃ svs2, svs2 = svs1 ++ [Value.slice (some ⟨wp1.heap.size, 0, none⟩) 2 2] := ⟨_, rfl⟩
       rw [← hsv] at HLP
       clear hsv
       have hol := HLP.out.own.alloc (.cells #[.string ⟨#[]⟩, .string (strOfNums u), .string ⟨#[]⟩] 9)
       go_wp2_with (at_builtin; refine app1 rfl (.tmp 152) (.tmp 156) _ rfl uJ ba _ ((n + 1) + 1) svs2 rfl hol _ (by rw [zN]; rfl) rfl ?c1 ?c2 ?c3 ?_)
       case c1 => unfold maxLen; omega
       case c2 => omega
       case c3 => first | omega | (rw [zN]; omega)
       intro sl3 c3 wp3 hown3 hg3 _
       obtain ⟨hp3, hg4⟩ := (PatsUp.mk HLP.out.own HLP.out.rows).push (us := facB u) (cs := #[.string ⟨#[]⟩, .string (strOfNums u), .string ⟨#[]⟩]) (q := 3) rfl rfl (by unfold maxLen; omega) hown3 hg3
       have hb3 := fun q (e : (Value.slice sl2 ((n + 1) + 1) c2).ownBlock = some q) => (HLP.out.own.lt q e).1
       have hT' := hT.kept hg4 (fun q e => .inl (hb3 q e))
       have hg' := zA hg hg4 (fun q e => by have := hb3 q e; omega)
       have hbz' : ba ≤ wp3.heap.size := by have := hg4.size; omega
       have HLP' := Kh (LUp.ofPats hp3)
       clear hown3 hg3 hol hg4 hp3 hT hg hb3 hbz HLP 
       have hT := hT'; have hg := hg'; have hbz := hbz'; have HLP := HLP'
       clear hT' hg' hbz' HLP'
       obtain ⟨svs3, hsv⟩ : ∃ svs3, svs3 = svs2 ++ [Value.slice (some ⟨wp2.heap.size, 0, none⟩) 3 3] := ⟨_, rfl⟩
       rw [← hsv] at HLP
       clear hsv
       go_wp2
       go_roundw
       case rel => exact ⟨j + 1, _, sl3, c3, _, by go_num, by omega, rfl, by rw [HSN.out]; simpa using HLP.out, hT, hg, hbz⟩
       case measure => simp [intOf]; omega
    ·obtain rfl : j = ws.length := by omega
     rw [List.take_length] at HLP
     have HREF : Hid (refL 5 L i M = genL 5 i ws ++ []) := Kh (by rw [refL, HWS.out]; rfl)
     clear hlt hj
     rw [List.append_nil] at HREF
     clear hT
     rw [← HREF.out] at HLP
     obtain ⟨RL, hRL⟩ : ∃ RL, RL = refL 5 L i M := ⟨_, rfl⟩
     have HRLE := Kh hRL
     rw [← hRL] at HLP
     clear hRL HREF
     have hnl := HLP.out.len
     by_cases hlim : 300 < n
     ·have hlim' : (300 : Int) < (n : Int) := by omega
      have H3 := Kh (pX HO.out (.inr (HSZ.out.2 (HRL.out.1 (by rw [← HRLE.out]; omega)))))
      clear hlim
      go_wp2
      refine bodyPost_ret (v := .tuple #[.slice none 0 0, .int .i64 3]) (by simp [results, Try.results45, go_sem]) rfl ?_
      rw [H3.out.1, H3.out.2]
      exact rT.nil hg
     have hlim' : ¬ (300 : Int) < (n : Int) := by omega
     have HFS := Kh (jM HO.out (fun h => absurd h.1 (by decide)) (fun h => by have := HRL.out.2 (HSZ.out.1 h); rw [← HRLE.out] at this; omega))
     have HND : Hid RL.Nodup := Kh (by rw [HRLE.out]; exact ref_nodup (by decide) (by decide) (by rw [← HRLE.out]; omega))
     have HFIN : Hid (∀ ps, uA ps → ps.Perm RL → ps = famP 5 L i M) := Kh (fun ps h1 h2 => kV (by decide) (by decide) (by rw [← HRLE.out]; omega) h1 (by rw [← HRLE.out]; exact h2))
     have HOK : Hid (∀ p ∈ RL, okP p) := Kh (fun p hp => by rw [HRLE.out] at hp; exact refL_ok hl6 hk8 (by omega) hp)
     have hN300 : n ≤ 300 := by omega
     have HNL := Kh hnl
     clear hlim hnl HRLE
     obtain ⟨NL, hNL⟩ : ∃ NL, NL = n := ⟨_, rfl⟩
     rw [← hNL] at HLP HNL hN300 hlim' ⊢
     clear hNL
     obtain ⟨SL, hSL⟩ : ∃ SL, SL = sl := ⟨_, rfl⟩
     rw [← hSL] at HLP ⊢
     clear hSL
     obtain ⟨SC, hSC⟩ : ∃ SC, SC = c := ⟨_, rfl⟩
     rw [← hSC] at HLP ⊢
     clear hSC
     go_wp2
     go_loopg [194] NL (fun gh iv wx => ∃ (q : Nat) (sv : List Value) (ps : List (List (List Int))), gh + q = NL ∧ iv = .int .i64 (q : Int) ∧ LUp 28 ba wx (.slice SL NL SC) NL sv ps ∧ Hid (uA (ps.take q) ∧ ps.Perm RL) ∧ w.grownBy wx none)
     case atStart => exact ⟨0, _, _, rfl, rfl, HLP.out, Kh ⟨by simp [uA], List.Perm.refl _⟩, hg⟩
     case round =>
      clear HLP hg
      obtain ⟨q, sv, ps, hgh, rfl, hlp, hso, hg⟩ := hrel
      obtain ⟨wa, rfl⟩ : ∃ wa : World, wa = wr := ⟨_, rfl⟩
      have HGH := Kh hgh; have HLP := Kh hlp
      clear hgh
      by_cases hq : q < NL
      ·have hq' : (q : Int) < (NL : Int) := by omega
       rcases id hlp.own.2 with ⟨_, e2⟩ | ⟨g, cap, cur, e1, hgb, _, hnc, hcm, _, _⟩
       ·omega
       simp only [Value.slice.injEq] at e1
       obtain ⟨rfl, _, rfl⟩ := e1
       have hSC3 : SC ≤ 9223372036854775807 := by unfold maxLen at hcm; omega
       have hwg : w.heap.size ≤ g := by omega
       have HIN : Hid (InsI RL ps q q) := Kh (ins_start hso.out.1 (by have := hlp.len; omega) hso.out.2)
       clear hlp hso hcm
       go_wp2
       go_loopg [21] q (fun gh jv wx => ∃ (j : Nat) (sv : List Value) (ps : List (List (List Int))), j = gh ∧ j ≤ q ∧ jv = .int .i64 (j : Int) ∧ LUp 28 ba wx (.slice (some ⟨g, 0, none⟩) NL SC) NL sv ps ∧ Hid (InsI RL ps q j) ∧ w.grownBy wx none)
       case atStart => exact ⟨q, sv, ps, rfl, Nat.le_refl _, rfl, HLP.out, HIN, hg⟩
       case round =>
        clear HLP HIN hg
        obtain ⟨j, sv, ps, rfl, hjq, rfl, hlp, hin, hg⟩ := hrel
        obtain ⟨wb, rfl⟩ : ∃ wb : World, wb = wr := ⟨_, rfl⟩
        by_cases hj0 : j = 0
        ·subst hj0
         have HLP := Kh hlp
         clear hlp
         go_wp2
         go_quiet (fail)
         go_wp2
         go_roundg (NL - (q + 1))
         case measure => have := HGH.out; omega
         case rel => exact ⟨q + 1, sv, ps, by have := HGH.out; omega, by go_num, HLP.out.kept (zV wb _ none) (by simp), Kh (nX hin.out HND.out (.inl rfl)), zA hg (zV wb _ none) (by simp)⟩
        ·obtain ⟨k, hjk⟩ : ∃ k, j = k + 1 := ⟨j - 1, by omega⟩
         obtain ⟨a1, d1, p1, hs1, hp1, hc1', hr1⟩ := hlp.at (i := k) (by omega)
         obtain ⟨a2, d2, p2, hs2, hp2, hc2', hr2⟩ := hlp.at (i := j) (by omega)
         obtain ⟨A0, x0, B0, C0, hps0, _, _, _, _, hperm⟩ := hin.out
         have ho1 := HOK.out p1 (hperm.mem_iff.1 (List.mem_of_getElem? hp1))
         have ho2 := HOK.out p2 (hperm.mem_iff.1 (List.mem_of_getElem? hp2))
         clear hps0 hperm
         have hgd : wb.grownBy wb.drew none := zM wb none
         have HLE := Kh (less_any wb.heap.size wb.heap.size wb.drew (.slice a2 p2.length d2) (.slice a1 p1.length d1) p2 p1 (hr2.kept hgd (by simp)).row (hr1.kept hgd (by simp)).row ho2.2 ho1.2 ho2.1 ho1.1)
         have HLP := Kh hlp
         have hk0 : (0 : Int) < (j : Int) := by omega
         have hk0n : 0 < j := by omega
         have hd1 : decide ((0 : Int) < (j : Int)) = true := decide_eq_true hk0
         have hd2 : decide (0 < j) = true := decide_eq_true hk0n
         have hkn : (j : Int) < (NL : Int) := by omega
         have hkn2 : (k : Int) < (NL : Int) := by omega
         have hwk : IntKind.i64.wrap ((j : Int) - 1) = (k : Int) := by rw [IntWalk.i64_in _ (by omega)]; omega
         have hwk2 : IntKind.i64.wrap (k : Int) = (k : Int) := IntWalk.i64_in _ (by omega)
         have hk00 : (0 : Int) ≤ (k : Int) := by omega
         have hk300 : (k : Int) ≤ 300 := by omega
         have hsub : (j : Int) - 1 = (k : Int) := by omega
         have HJK := Kh hjk
         have HCC : Hid (∀ W, wb.drew.grownBy W none → W.cell? ⟨g, j, none⟩ = some (.slice a2 p2.length d2) ∧ W.cell? ⟨g, k, none⟩ = some (.slice a1 p1.length d1)) := Kh (fun W hW => ⟨yK (yK hc2' hgd) hW, yK (yK hc1' hgd) hW⟩)
         obtain ⟨n2, hn2⟩ : ∃ n2, n2 = p2.length := ⟨_, rfl⟩
         obtain ⟨n1, hn1⟩ : ∃ n1, n1 = p1.length := ⟨_, rfl⟩
         rw [← hn1] at hs1 hc1' HLE HCC
         rw [← hn2] at hs2 hc2' HLE HCC
         have HS1 := Kh hs1; have HS2 := Kh hs2; have HP1 := Kh hp1; have HP2 := Kh hp2
         clear hlp hr1 hr2 ho1 ho2 hs1 hs2 hp1 hp2 hn1 hn2 hjk hj0
         cases hle : xI p2 p1 with
         | false =>
          rw [hle] at HLE
          have HDN := Kh (nX hin.out HND.out (.inr ⟨k, p1, p2, HJK.out, HP1.out, by rw [← HJK.out]; exact HP2.out, hle⟩))
          clear hle hin
          go_wp2
          go_region_held3 (fun W => W.cell? ⟨g, j, none⟩ = some (.slice a2 n2 d2) ∧ W.cell? ⟨g, k, none⟩ = some (.slice a1 n1 d1))
           (first | go_keep | exact HCC.out _ hG7 | fail)
           (first | (go_at_call 78; (with_reducible refine HLE.out.mono ?_); rintro e w7 ⟨rfl, hG7⟩) | fail)
          go_wp2
          go_roundg (NL - (q + 1))
          case measure => have := HGH.out; omega
          case rel => exact ⟨q + 1, sv, ps, by have := HGH.out; omega, by go_num, (HLP.out.kept hgd (by simp)).kept hG7 (by simp), HDN, zA (zA hg hgd (by simp)) hG7 (by simp)⟩
         | true =>
          rw [hle] at HLE
          have HST := Kh (ins_step (by rw [← HJK.out]; exact hin.out) HP1.out (by rw [← HJK.out]; exact HP2.out) hle)
          clear hle hin
          go_wp2
          go_region_held3 (fun W => W.cell? ⟨g, j, none⟩ = some (.slice a2 n2 d2) ∧ W.cell? ⟨g, k, none⟩ = some (.slice a1 n1 d1))
           (first | go_keep | exact HCC.out _ hG7 | fail)
           (first | (go_at_call 78; (with_reducible refine HLE.out.mono ?_); rintro e w7 ⟨rfl, hG7⟩) | fail)
          have hlp7 := (HLP.out.kept hgd (by simp)).kept hG7 (by simp)
          have hg7 := zA (zA hg hgd (by simp)) hG7 (by simp)
          have k1 := yK (yK hc1' hgd) hG7
          have k2 := yK (yK hc2' hgd) hG7
          rcases id hlp7.own.2 with ⟨e1, _⟩ | ⟨g', cap, cur, e1, _, hgk, _, _, _, _⟩
          ·simp at e1
          simp only [Value.slice.injEq, Option.some.injEq, Addr.mk.injEq, and_true] at e1
          obtain ⟨rfl, _, rfl⟩ := e1
          have f1 := frozen_of_row w7 g k _ _ hgk
          have f2 := frozen_of_row w7 g j _ _ hgk
          have HLP7 := Kh hlp7; have HG7 := Kh hg7; have HGK := Kh hgk
          clear hlp7 hg7 hgk hg hgd hG7 hc1' hc2' HLP HLE
          go_wp2
          go_region
          all_goals
           go_wp2
           go_roundg k
           case measure => have := HJK.out; omega
           case rel =>
            have e9 := HJK.out
            subst e9
            obtain ⟨hsw, hgs⟩ := HLP7.out.drewN.swap HS1.out HS2.out HP1.out HP2.out (W := _) (by first | exact .inl rfl | exact .inr rfl)
            exact ⟨k, _, _, rfl, by omega, by go_num, hsw, HST, zA (zA HG7.out (zM w7 none) (by simp)) hgs (fun x e => by have : g = x := Option.some.inj e; omega)⟩
      ·obtain rfl : q = NL := by have := HGH.out; omega
       have hpl := hlp.len
       have hps : ps = famP 5 L i M := HFIN.out ps (by have := hso.out.1; rwa [hpl, List.take_length] at this) hso.out.2
       have HPS := Kh hps; have HPL := Kh hpl
       clear hps hpl hlp hso
       go_wp2
       refine bodyPost_ret (v := .tuple #[.slice SL q SC, .int .i64 0]) (by simp [results, Try.results45, go_sem]) rfl ?_
       rw [HFS.out.1, HFS.out.2, ← HPS.out]
       exact ⟨SL, SC, sv, by rw [← HPL.out], by rw [← HPL.out]; exact RowT.of_owns HLP.out.own, HLP.out.rows, hg⟩
set_option maxRecDepth 100000 in
set_option maxHeartbeats 4000000 in
theorem rfam6_any (L K M : Nat) (w : World) (hl1 : 1 ≤ L) (hl6 : L ≤ 6) (hk1 : 1 ≤ K) (hk8 : K ≤ 8) (hm : M = 0) :
  Calls Try.prog 45 #[.int .i64 6, .int .i64 L, .int .i64 K, .int .i64 M] w (rT w (famE 6 L K M) (famL 6 L K M)) := by
 have HML := Kh (yT w (L : Int))
 rw [decide_eq_true (show 1 ≤ (L : Int) ∧ (L : Int) ≤ 6 by omega)] at HML
 have ho : qY 6 L K M = true := by simp [qY]; omega
 have HO := Kh ho
 have HSZ := Kh (size_is (kind := 6) (letters := L) (k := K) (m := M) (by decide) (by decide) hl1 (fun _ => by omega))
 have HRL := Kh (ref_len (kind := 6) (letters := L) (k := K) (by decide) (by decide) M)
 have HGE := Kh (famP_ge (kind := 6) (L := L) (K := K) M)
 have hm1 : ((M : Int) != 0) = false := by rw [hm]; rfl
 clear ho
 by_cases h6 : 8 < (K : Int) + 2
 ·have h3 := pX HO.out (.inl ⟨rfl, h6⟩)
  have H3 := Kh h3
  clear h3
  go_enter Try.func45, Try.ntmps45
  go_wp2_with fail
  refine HML.out.mono ?_
  rintro e w ⟨rfl, rfl⟩
  go_wp2
  refine bodyPost_ret (v := .tuple #[.slice none 0 0, .int .i64 3]) (by simp [results, Try.results45, go_sem]) rfl ?_
  rw [H3.out.1, H3.out.2]
  exact rT.nil (zK _ _)
 have HUB : Hid (∀ i, i ≤ K → (upTo L (i + 1)).length ≤ 20000000) := Kh (fun i hi => by have := qS L hl6 (i + 1) (by omega); omega)
 go_enter Try.func45, Try.ntmps45
 go_wp2_with fail
 refine HML.out.mono ?_
 rintro e w ⟨rfl, rfl⟩
 go_wp2
 go_loopg [11, 12, 13] K (fun gh vc vi vp wr => ∃ i : Nat, gh + i = K ∧ vc = .int .i64 (((upTo L (i + 1)).length : Nat) : Int) ∧ vi = .int .i64 (i : Int) ∧ vp = .int .i64 ((L ^ i : Nat) : Int) ∧ w = wr)
 case atStart => exact ⟨0, rfl, by rw [yY, List.length_append, wG]; simp [upTo], rfl, rfl, rfl⟩
 case round =>
  obtain ⟨i, hgh, rfl, rfl, rfl, rfl⟩ := hrel
  have HGH := Kh hgh
  clear hgh
  have hb1 := HUB.out i (by have := HGH.out; omega)
  by_cases hlt : i < K
  ·have hlt' : (i : Int) < (K : Int) := by omega
   have hb2 := HUB.out (i + 1) (by omega)
   have hst := pK L i
   rw [hst] at hb2
   have HST := Kh hst
   obtain ⟨CN, hCN⟩ : ∃ CN, CN = (upTo L (i + 1)).length := ⟨_, rfl⟩
   obtain ⟨PW, hPW⟩ : ∃ PW, PW = L ^ i := ⟨_, rfl⟩
   obtain ⟨P2, hP2⟩ : ∃ P2, P2 = L ^ i * L := ⟨_, rfl⟩
   have hmul : (PW : Int) * (L : Int) = (P2 : Int) := by rw [hP2, hPW]; push_cast; rfl
   have HS2 : Hid ((upTo L (i + 1 + 1)).length = CN + P2 ∧ L ^ (i + 1) = P2) := Kh ⟨by rw [HST.out, hCN, hP2], by rw [hP2, Nat.pow_succ]⟩
   rw [← hP2, ← hCN] at hb2
   rw [← hCN, ← hPW]
   clear hst hCN hPW hP2 hb1
   go_wp2
   go_roundg (K - (i + 1))
   case measure => have := HGH.out; omega
   case rel => exact ⟨i + 1, by have := HGH.out; omega, by rw [HS2.out.1]; go_num, by go_num, by rw [HS2.out.2], rfl⟩
  ·obtain rfl : i = K := by have := HGH.out; omega
   clear hlt HUB
   obtain ⟨ws, hws⟩ : ∃ ws, ws = yL L i := ⟨_, rfl⟩
   have HWS := Kh hws
   have hwe : upTo L (i + 1) = ws := hws.symm
   rw [hwe] at hb1 ⊢
   have HGE2 : Hid (ws.length ≤ (famP 6 L i M).length + 1) := Kh (by rw [hws]; exact HGE.out)
   have hw1 : 1 ≤ ws.length := by rw [hws]; exact jW hl1
   have H2W : Hid (1 ≤ i → 2 ≤ ws.length) := Kh (fun h => by rw [hws]; exact upTo_two hl1 h)
   have HWN : Hid (∀ r (h : r < ws.length), (ws[r] = [] ↔ r = 0)) := Kh (by subst hws; exact fun r h => mC h)
   have HW8 : Hid (∀ u ∈ ws, u.length ≤ 8) := Kh (by subst hws; exact fun u hu => mB hk8 hu)
   have HOW : Hid (∀ u ∈ ws, okW u) := Kh (by subst hws; exact fun u hu => okB hl6 (n := i + 1) hu)
   have HUP : Hid (ws.length ≤ 301 → Calls Try.prog 76 #[.int .i64 L, .int .i64 i] w (Listed w ws)) := Kh (fun h => by rw [← hwe]; exact upto_any L i w hl1 hl6 hk8 (by rw [hwe]; omega))
   clear hws hwe
   by_cases hbig : 300 < (ws.length : Int) - 1
   ·have h3 := pX HO.out (.inr (HSZ.out.2 (by have := HGE2.out; omega)))
    have H3 := Kh h3
    clear h3
    go_wp2
    refine bodyPost_ret (v := .tuple #[.slice none 0 0, .int .i64 3]) (by simp [results, Try.results45, go_sem]) rfl ?_
    rw [H3.out.1, H3.out.2]
    exact rT.nil (zK _ _)
   have HUP2 := Kh (HUP.out (by omega))
   clear HUP
   go_wp2_with fail
   refine HUP2.out.mono ?_
   rintro e w1 ⟨sa, sc, rfl, hrow, hg1⟩
   obtain ⟨b, off, rfl, hc1, hc2⟩ := kO hrow (by omega)
   have hc3 : sc ≤ 9223372036854775807 := by unfold maxLen at hc2; omega
   have hw301 : ws.length ≤ 301 := by omega
   clear HUP2 hc2 hbig
   obtain ⟨ba, hba⟩ : ∃ ba, ba = w1.heap.size := ⟨_, rfl⟩
   rw [← hba] at hrow
   have hbz : ba ≤ w1.heap.size := by omega
   have hwba : w.heap.size ≤ ba := by rw [hba]; exact hg1.size
   clear hba
   go_wp2
   go_loopw [15, 90] (fun v iv wr => ∃ (j n : Nat) (sl : Option Addr) (c : Nat) (svs : List Value), iv = .int .i64 (j : Int) ∧ j ≤ ws.length ∧ v = .slice sl n c ∧
     LUp 28 ba wr (.slice sl n c) n svs (genL 6 i (ws.take j)) ∧ RowT ba 9 wr (.slice (some ⟨b, off, none⟩) ws.length sc) (strs ws) ∧ w.grownBy wr none ∧ ba ≤ wr.heap.size)
    (fun _ iv _ => ws.length - (intOf iv).toNat)
   case atStart => exact ⟨0, 0, none, 0, [], rfl, Nat.zero_le _, rfl, by simpa [genL] using LUp.nil (by decide) _ _, hrow, hg1, hbz⟩
   case round =>
    clear hrow hg1 hbz
    obtain ⟨j, n, sl, c, svs, rfl, hj, rfl, hlp, hT, hg, hbz⟩ := hrel
    obtain ⟨wo, rfl⟩ : ∃ wo : World, wo = wr := ⟨_, rfl⟩
    have hn : n ≤ 1600 := by
     have h1 := hlp.len
     have h2 := genL_len 6 i (ws.take j)
     rw [List.length_take] at h2; omega
    have HLP := Kh hlp
    clear hlp
    by_cases hlt : j < ws.length
    ·have hlt' : (j : Int) < ws.length := by omega
     have hcell := word_cell hT hlt
     have hu8 := HW8.out _ (List.getElem_mem hlt)
     have hsn := genL_snoc 6 i hlt
     obtain ⟨u, hu2⟩ : ∃ u, u = ws[j] := ⟨_, rfl⟩
     rw [← hu2] at hcell hu8 hsn
     rw [genU_6] at hsn
     have HU := Kh hu2; have HSN := Kh hsn
     clear hu2 hsn
     have hsu : (strOfNums u).size = u.length := strOfNums_size u
     have hemp := emptyB u
     by_cases he : u = []
     ·have hemp2 : (strOfNums u).toList.isEmpty = true := by rw [hemp, he]; rfl
      clear hemp
      have HEM := Kh he
      clear he
      rw [if_pos HEM.out, List.append_nil] at HSN
      go_wp2
      go_roundw
      case rel => exact ⟨j + 1, _, sl, c, _, by go_num, by omega, rfl, by rw [HSN.out]; exact HLP.out, hT, hg, hbz⟩
      case measure => simp [intOf]; omega
     ·have hemp2 : (strOfNums u).toList.isEmpty = false := by rw [hemp, List.isEmpty_eq_false_iff]; exact he
      clear hemp
      have HEM := Kh he
      clear he
      rw [if_neg HEM.out] at HSN
      have HOU := Kh (HOW.out u (by rw [HU.out]; exact List.getElem_mem hlt))
      have g0 : wo.grownBy (wo.alloc (.cells #[.string ⟨#[]⟩] 9)) none := World.grownBy_alloc _ _ _
      have ho := World.ownsRow_lit (e := 9) (size := 1) wo #[.string ⟨#[]⟩] 1 (Nat.le_refl _) (by unfold maxLen; omega) (by simp)
      have hit : ((wo.alloc (.cells #[.string ⟨#[]⟩] 9)).iter (strOfNums u) 0).heap[wo.heap.size + 1]? = some (.stringIter (strOfNums u) 0) := by
       have := World.iter_heap (wo.alloc (.cells #[.string ⟨#[]⟩] 9)) (strOfNums u) 0
       rwa [zN] at this
      have HO0 := Kh (ho.alloc (.stringIter (strOfNums u) 0)); have HIT := Kh hit
      have HG0 := Kh (xZ g0 (.stringIter (strOfNums u) 0))
      clear ho hit g0
      go_wp2
      go_loopg [18] u.length (fun gh v wq => ∃ (p : Nat) (sb : Option Addr) (cb : Nat), gh + p = u.length ∧ v = .slice sb (1 + p) cb ∧ wq.ownsRow wo.heap.size 9 1 (.slice sb (1 + p) cb) (1 + p) (strs (sW u p)) ∧ wq.heap[wo.heap.size + 1]? = some (.stringIter (strOfNums u) p) ∧ wo.grownBy wq none)
      case atStart => exact ⟨0, _, _, rfl, rfl, HO0.out, HIT.out, HG0.out⟩
      case round =>
       clear HO0 HIT HG0
       obtain ⟨p, sb, cb, hgh, rfl, hownb, hitr, hgq⟩ := hrel
       obtain ⟨wq, rfl⟩ : ∃ wq : World, wq = wr := ⟨_, rfl⟩
       have HGHP := Kh hgh
       clear hgh
       by_cases hpl : p < u.length
       ·have hps : p < (strOfNums u).size := by omega
        have hnx : ∀ ty, (Instr.next (.pointer (some ⟨wo.heap.size + 1, 0, none⟩)) true ty).run Try.prog wq = _ := fun ty => Lib.run_next_ascii_at wq (wo.heap.size + 1) (strOfNums u) p ty hitr hps (str_ascii HOU.out hpl hps)
        have hex := extract_one u p hpl
        have hit2 := Lib.iterAt_heap wq (wo.heap.size + 1) (strOfNums u) p (p + 1) hitr
        have hgi := grown_iterAt wq (wo.heap.size + 1) (strOfNums u) (p + 1)
        have hown2 := hownb.kept hgi (.inr (nA hownb hitr).symm)
        have hgq2 := zA hgq hgi (fun q e => by have := Option.some.inj e; omega)
        obtain ⟨BY, hBY⟩ : ∃ BY : Nat, BY = ((strOfNums u)[p]'hps).toNat := ⟨_, rfl⟩
        rw [← hBY] at hnx
        obtain ⟨wi, hwi⟩ : ∃ wi, wq.iterAt (wo.heap.size + 1) (strOfNums u) (p + 1) = wi := ⟨_, rfl⟩
        rw [hwi] at hnx hit2 hown2 hgq2
        have HIT2 := Kh hit2
        have hp8 : (p : Int) + 1 ≤ 8 := by omega
        have hp9 : (p : Int) < ((strOfNums u).size : Int) := by omega
        have hp10 : (p : Int) + 1 ≤ ((strOfNums u).size : Int) := by omega
        clear hBY hwi hgi hownb hitr hgq hit2
        go_wp2_with (at_builtin; refine app1 rfl (.tmp 166) (.tmp 172) _ rfl elem_str wo.heap.size _ (1 + p) (strs (sW u p)) rfl hown2 _ rfl rfl ?c1 ?c2 ?c3 ?_)
        case c1 => unfold maxLen; omega
        case c2 => omega
        case c3 => exact hgq2.size
        intro sb' cb' w3 hown3 hg3 _
        have hb3 := fun q (e : (Value.slice sb (1 + p) cb).ownBlock = some q) => (hown2.lt q e).1
        have hg4 := zA hgq2 hg3 hb3
        have hit3 := zB HIT2.out hg3 (fun e => nA hown2 HIT2.out e.symm)
        have e1 : strs (sW u (p + 1)) = strs (sW u p) ++ [.string (strOfNums [u[p]])] := by
         rw [sW, sW, List.take_succ_eq_append_getElem hpl, List.map_append, ← List.append_assoc, qV]; rfl
        have HE := Kh e1; have HO3 := Kh hown3; have HI3 := Kh hit3
        clear hown2 hgq2 hg3 hex e1 hown3 hit3 hnx hb3
        go_wp2
        go_roundg (u.length - (p + 1))
        case measure => have := HGHP.out; omega
        case rel => exact ⟨p + 1, sb', cb', by have := HGHP.out; omega, rfl, by rw [HE.out]; exact HO3.out, HI3.out, hg4⟩
       ·obtain ⟨ub, hub⟩ : ∃ ub, ub = sW u p := ⟨_, rfl⟩
        have hpu : p = u.length := by have := HGHP.out; omega
        have hubl : ub.length = 1 + p := by rw [hub]; simp [sW]; omega
        have hubp : uB u = ub ++ [[]] := by rw [hub, sW, List.take_of_length_le (by omega)]; rfl
        have hps : ¬ p < (strOfNums u).size := by omega
        have hp8 : p ≤ 8 := by omega
        have hnx : ∀ ty, (Instr.next (.pointer (some ⟨wo.heap.size + 1, 0, none⟩)) true ty).run Try.prog wq = _ := fun ty => Lib.run_next_end_at wq (wo.heap.size + 1) (strOfNums u) p ty hitr hps
        rw [← hub] at hownb
        have HUP := Kh hubp
        clear hub hubl hubp hpu hitr hpl
        go_wp2_with (at_builtin; refine app1 rfl (.tmp 175) (.tmp 176) _ rfl elem_str wo.heap.size _ (1 + p) (strs ub) rfl hownb _ rfl rfl ?c1 ?c2 ?c3 ?_)
        case c1 => unfold maxLen; omega
        case c2 => omega
        case c3 => exact hgq.size
        intro sb' cb' w3 hown3 hg3 _
        have hg4 := zA hgq hg3 (fun q e => (hownb.lt q e).1)
        have e3 : strs ub ++ [.string ⟨#[]⟩] = strs (uB u) := by rw [HUP.out, qV]; rfl
        rw [e3] at hown3
        have hlp3 := HLP.out.kept hg4 (by simp)
        have hs3 := hg4.size
        clear hownb hg3 hgq hnx e3
        go_wp2_with (at_builtin; refine app1 rfl (.tmp 174) (.tmp 179) _ rfl uJ ba _ n svs rfl hlp3.own _ rfl rfl ?c1 ?c2 ?c3 ?_)
        case c1 => unfold maxLen; omega
        case c2 => omega
        case c3 => omega
        intro sl5 c5 w5 hown5 hg5 _
        obtain ⟨hp5, hg6⟩ := HLP.out.push (us := uB u) hg4 hown3 hown5 hg5
        have hb5 := fun q (e : (Value.slice sl n c).ownBlock = some q) => (HLP.out.own.lt q e).1
        have hT5 := hT.kept hg6 (fun q e => .inl (hb5 q e))
        have hg7 := zA hg hg6 (fun q e => by have := hb5 q e; omega)
        have hz5 : ba ≤ w5.heap.size := by have := hg6.size; omega
        have HP5 := Kh hp5
        clear hown3 hown5 hg4 hg5 hg6 hlp3 hp5 hT hg hb5 HLP hs3 hcell
        go_wp2
        go_roundw
        case rel => exact ⟨j + 1, n + 1, sl5, c5, _, by go_num, by omega, rfl, by rw [HSN.out]; exact HP5.out, hT5, hg7, hz5⟩
        case measure => simp [intOf]; omega
    ·obtain rfl : j = ws.length := by omega
     rw [List.take_length] at HLP
     have HREF : Hid (refL 6 L i M = genL 6 i ws ++ []) := Kh (by rw [refL, HWS.out]; rfl)
     clear hlt hj
     rw [List.append_nil] at HREF
     clear hT
     rw [← HREF.out] at HLP
     obtain ⟨RL, hRL⟩ : ∃ RL, RL = refL 6 L i M := ⟨_, rfl⟩
     have HRLE := Kh hRL
     rw [← hRL] at HLP
     clear hRL HREF
     have hnl := HLP.out.len
     by_cases hlim : 300 < n
     ·have hlim' : (300 : Int) < (n : Int) := by omega
      have H3 := Kh (pX HO.out (.inr (HSZ.out.2 (HRL.out.1 (by rw [← HRLE.out]; omega)))))
      clear hlim
      go_wp2
      refine bodyPost_ret (v := .tuple #[.slice none 0 0, .int .i64 3]) (by simp [results, Try.results45, go_sem]) rfl ?_
      rw [H3.out.1, H3.out.2]
      exact rT.nil hg
     have hlim' : ¬ (300 : Int) < (n : Int) := by omega
     have HFS := Kh (jM HO.out (fun h => by omega) (fun h => by have := HRL.out.2 (HSZ.out.1 h); rw [← HRLE.out] at this; omega))
     have HND : Hid RL.Nodup := Kh (by rw [HRLE.out]; exact ref_nodup (by decide) (by decide) (by rw [← HRLE.out]; omega))
     have HFIN : Hid (∀ ps, uA ps → ps.Perm RL → ps = famP 6 L i M) := Kh (fun ps h1 h2 => kV (by decide) (by decide) (by rw [← HRLE.out]; omega) h1 (by rw [← HRLE.out]; exact h2))
     have HOK : Hid (∀ p ∈ RL, okP p) := Kh (fun p hp => by rw [HRLE.out] at hp; exact refL_ok hl6 hk8 (by omega) hp)
     have hN300 : n ≤ 300 := by omega
     have HNL := Kh hnl
     clear hlim hnl HRLE
     obtain ⟨NL, hNL⟩ : ∃ NL, NL = n := ⟨_, rfl⟩
     rw [← hNL] at HLP HNL hN300 hlim' ⊢
     clear hNL
     obtain ⟨SL, hSL⟩ : ∃ SL, SL = sl := ⟨_, rfl⟩
     rw [← hSL] at HLP ⊢
     clear hSL
     obtain ⟨SC, hSC⟩ : ∃ SC, SC = c := ⟨_, rfl⟩
     rw [← hSC] at HLP ⊢
     clear hSC
     go_wp2
     go_loopg [194] NL (fun gh iv wx => ∃ (q : Nat) (sv : List Value) (ps : List (List (List Int))), gh + q = NL ∧ iv = .int .i64 (q : Int) ∧ LUp 28 ba wx (.slice SL NL SC) NL sv ps ∧ Hid (uA (ps.take q) ∧ ps.Perm RL) ∧ w.grownBy wx none)
     case atStart => exact ⟨0, _, _, rfl, rfl, HLP.out, Kh ⟨by simp [uA], List.Perm.refl _⟩, hg⟩
     case round =>
      clear HLP hg
      obtain ⟨q, sv, ps, hgh, rfl, hlp, hso, hg⟩ := hrel
      obtain ⟨wa, rfl⟩ : ∃ wa : World, wa = wr := ⟨_, rfl⟩
      have HGH := Kh hgh; have HLP := Kh hlp
      clear hgh
      by_cases hq : q < NL
      ·have hq' : (q : Int) < (NL : Int) := by omega
       rcases id hlp.own.2 with ⟨_, e2⟩ | ⟨g, cap, cur, e1, hgb, _, hnc, hcm, _, _⟩
       ·omega
       simp only [Value.slice.injEq] at e1
       obtain ⟨rfl, _, rfl⟩ := e1
       have hSC3 : SC ≤ 9223372036854775807 := by unfold maxLen at hcm; omega
       have hwg : w.heap.size ≤ g := by omega
       have HIN : Hid (InsI RL ps q q) := Kh (ins_start hso.out.1 (by have := hlp.len; omega) hso.out.2)
       clear hlp hso hcm
       go_wp2
       go_loopg [21] q (fun gh jv wx => ∃ (j : Nat) (sv : List Value) (ps : List (List (List Int))), j = gh ∧ j ≤ q ∧ jv = .int .i64 (j : Int) ∧ LUp 28 ba wx (.slice (some ⟨g, 0, none⟩) NL SC) NL sv ps ∧ Hid (InsI RL ps q j) ∧ w.grownBy wx none)
       case atStart => exact ⟨q, sv, ps, rfl, Nat.le_refl _, rfl, HLP.out, HIN, hg⟩
       case round =>
        clear HLP HIN hg
        obtain ⟨j, sv, ps, rfl, hjq, rfl, hlp, hin, hg⟩ := hrel
        obtain ⟨wb, rfl⟩ : ∃ wb : World, wb = wr := ⟨_, rfl⟩
        by_cases hj0 : j = 0
        ·subst hj0
         have HLP := Kh hlp
         clear hlp
         go_wp2
         go_quiet (fail)
         go_wp2
         go_roundg (NL - (q + 1))
         case measure => have := HGH.out; omega
         case rel => exact ⟨q + 1, sv, ps, by have := HGH.out; omega, by go_num, HLP.out.kept (zV wb _ none) (by simp), Kh (nX hin.out HND.out (.inl rfl)), zA hg (zV wb _ none) (by simp)⟩
        ·obtain ⟨k, hjk⟩ : ∃ k, j = k + 1 := ⟨j - 1, by omega⟩
         obtain ⟨a1, d1, p1, hs1, hp1, hc1', hr1⟩ := hlp.at (i := k) (by omega)
         obtain ⟨a2, d2, p2, hs2, hp2, hc2', hr2⟩ := hlp.at (i := j) (by omega)
         obtain ⟨A0, x0, B0, C0, hps0, _, _, _, _, hperm⟩ := hin.out
         have ho1 := HOK.out p1 (hperm.mem_iff.1 (List.mem_of_getElem? hp1))
         have ho2 := HOK.out p2 (hperm.mem_iff.1 (List.mem_of_getElem? hp2))
         clear hps0 hperm
         have hgd : wb.grownBy wb.drew none := zM wb none
         have HLE := Kh (less_any wb.heap.size wb.heap.size wb.drew (.slice a2 p2.length d2) (.slice a1 p1.length d1) p2 p1 (hr2.kept hgd (by simp)).row (hr1.kept hgd (by simp)).row ho2.2 ho1.2 ho2.1 ho1.1)
         have HLP := Kh hlp
         have hk0 : (0 : Int) < (j : Int) := by omega
         have hk0n : 0 < j := by omega
         have hd1 : decide ((0 : Int) < (j : Int)) = true := decide_eq_true hk0
         have hd2 : decide (0 < j) = true := decide_eq_true hk0n
         have hkn : (j : Int) < (NL : Int) := by omega
         have hkn2 : (k : Int) < (NL : Int) := by omega
         have hwk : IntKind.i64.wrap ((j : Int) - 1) = (k : Int) := by rw [IntWalk.i64_in _ (by omega)]; omega
         have hwk2 : IntKind.i64.wrap (k : Int) = (k : Int) := IntWalk.i64_in _ (by omega)
         have hk00 : (0 : Int) ≤ (k : Int) := by omega
         have hk300 : (k : Int) ≤ 300 := by omega
         have hsub : (j : Int) - 1 = (k : Int) := by omega
         have HJK := Kh hjk
         have HCC : Hid (∀ W, wb.drew.grownBy W none → W.cell? ⟨g, j, none⟩ = some (.slice a2 p2.length d2) ∧ W.cell? ⟨g, k, none⟩ = some (.slice a1 p1.length d1)) := Kh (fun W hW => ⟨yK (yK hc2' hgd) hW, yK (yK hc1' hgd) hW⟩)
         obtain ⟨n2, hn2⟩ : ∃ n2, n2 = p2.length := ⟨_, rfl⟩
         obtain ⟨n1, hn1⟩ : ∃ n1, n1 = p1.length := ⟨_, rfl⟩
         rw [← hn1] at hs1 hc1' HLE HCC
         rw [← hn2] at hs2 hc2' HLE HCC
         have HS1 := Kh hs1; have HS2 := Kh hs2; have HP1 := Kh hp1; have HP2 := Kh hp2
         clear hlp hr1 hr2 ho1 ho2 hs1 hs2 hp1 hp2 hn1 hn2 hjk hj0
         cases hle : xI p2 p1 with
         | false =>
          rw [hle] at HLE
          have HDN := Kh (nX hin.out HND.out (.inr ⟨k, p1, p2, HJK.out, HP1.out, by rw [← HJK.out]; exact HP2.out, hle⟩))
          clear hle hin
          go_wp2
          go_region_held3 (fun W => W.cell? ⟨g, j, none⟩ = some (.slice a2 n2 d2) ∧ W.cell? ⟨g, k, none⟩ = some (.slice a1 n1 d1))
           (first | go_keep | exact HCC.out _ hG7 | fail)
           (first | (go_at_call 78; (with_reducible refine HLE.out.mono ?_); rintro e w7 ⟨rfl, hG7⟩) | fail)
          go_wp2
          go_roundg (NL - (q + 1))
          case measure => have := HGH.out; omega
          case rel => exact ⟨q + 1, sv, ps, by have := HGH.out; omega, by go_num, (HLP.out.kept hgd (by simp)).kept hG7 (by simp), HDN, zA (zA hg hgd (by simp)) hG7 (by simp)⟩
         | true =>
          rw [hle] at HLE
          have HST := Kh (ins_step (by rw [← HJK.out]; exact hin.out) HP1.out (by rw [← HJK.out]; exact HP2.out) hle)
          clear hle hin
          go_wp2
          go_region_held3 (fun W => W.cell? ⟨g, j, none⟩ = some (.slice a2 n2 d2) ∧ W.cell? ⟨g, k, none⟩ = some (.slice a1 n1 d1))
           (first | go_keep | exact HCC.out _ hG7 | fail)
           (first | (go_at_call 78; (with_reducible refine HLE.out.mono ?_); rintro e w7 ⟨rfl, hG7⟩) | fail)
          have hlp7 := (HLP.out.kept hgd (by simp)).kept hG7 (by simp)
          have hg7 := zA (zA hg hgd (by simp)) hG7 (by simp)
          have k1 := yK (yK hc1' hgd) hG7
          have k2 := yK (yK hc2' hgd) hG7
          rcases id hlp7.own.2 with ⟨e1, _⟩ | ⟨g', cap, cur, e1, _, hgk, _, _, _, _⟩
          ·simp at e1
          simp only [Value.slice.injEq, Option.some.injEq, Addr.mk.injEq, and_true] at e1
          obtain ⟨rfl, _, rfl⟩ := e1
          have f1 := frozen_of_row w7 g k _ _ hgk
          have f2 := frozen_of_row w7 g j _ _ hgk
          have HLP7 := Kh hlp7; have HG7 := Kh hg7; have HGK := Kh hgk
          clear hlp7 hg7 hgk hg hgd hG7 hc1' hc2' HLP HLE
          go_wp2
          go_region
          all_goals
           go_wp2
           go_roundg k
           case measure => have := HJK.out; omega
           case rel =>
            have e9 := HJK.out
            subst e9
            obtain ⟨hsw, hgs⟩ := HLP7.out.drewN.swap HS1.out HS2.out HP1.out HP2.out (W := _) (by first | exact .inl rfl | exact .inr rfl)
            exact ⟨k, _, _, rfl, by omega, by go_num, hsw, HST, zA (zA HG7.out (zM w7 none) (by simp)) hgs (fun x e => by have : g = x := Option.some.inj e; omega)⟩
      ·obtain rfl : q = NL := by have := HGH.out; omega
       have hpl := hlp.len
       have hps : ps = famP 6 L i M := HFIN.out ps (by have := hso.out.1; rwa [hpl, List.take_length] at this) hso.out.2
       have HPS := Kh hps; have HPL := Kh hpl
       clear hps hpl hlp hso
       go_wp2
       refine bodyPost_ret (v := .tuple #[.slice SL q SC, .int .i64 0]) (by simp [results, Try.results45, go_sem]) rfl ?_
       rw [HFS.out.1, HFS.out.2, ← HPS.out]
       exact ⟨SL, SC, sv, by rw [← HPL.out], by rw [← HPL.out]; exact RowT.of_owns HLP.out.own, HLP.out.rows, hg⟩
end Go.Proofs.Ytjfdomfendbhfaa
namespace Go.Proofs.Ytjfdomfendbhfaa
open Go.RowKit Go.Maps
theorem psF_len : psF.length = 7 := by decide +kernel
theorem psP_len : psP.length = 2 := by decide +kernel
theorem smallF : ∀ p ∈ psFL, ∀ u ∈ p, u.length ≤ 4096 := by decide
theorem smallP : ∀ p ∈ psPL, ∀ u ∈ p, u.length ≤ 4096 := by decide
theorem acc_ab : acc dK 0 [0, 1] = true ∧ acc dK 0 [1, 0] = false ∧ acc dK 0 [1, 1] = false := by decide +kernel
theorem knF {w' : World} {v : Value} {u1 u2 : ByteArray} {E : Int} (h : OfOut w' dK psF v u1 u2 E) : E = 0 ∧ ∃ g, rB w'.heap.size w' v g ∧ ∀ s, zP s 2 = true → diaH g s = acc dK 0 (zH s) := by
 cases h with
 | bad h => exact absurd ofEF h
 | over h ho => exact (kP underF ho).elim
 | conf h hu hc => exact (noConfF (by rw [← psF_len]; exact hc)).elim
 | ok _ g l L h hL hl4 hn hg h1 h2 h3 h4 h5 hc h6 => exact ⟨rfl, g, hg, fun s hs => of_holds h h1 h2 h3 h4 (by have := hc.len_le; omega) h5 hs⟩
theorem knP {w' : World} {v : Value} {u1 u2 : ByteArray} {E : Int} (h : OfOut w' dK psP v u1 u2 E) : E = 20 ∧ v = .agg #[.slice none 0 0, .slice none 0 0, .int .i64 0] ∧ ∃ u v, u1 = strOfNums (lets u) ∧ u2 = strOfNums (lets v) ∧ yA 2 u ∧ yA 2 v ∧ u.length ≤ 4000 ∧ v.length ≤ 4000 ∧ acc dK 0 u = true ∧ acc dK 0 v = false := by
 cases h with
 | bad h => exact absurd ofEP h
 | over h ho => exact (kP underP ho).elim
 | conf h hu hc u v h1 h2 h3 h4 h5 h6 h7 => exact ⟨rfl, rfl, u, v, rfl, rfl, h1, h2, h3, h4, h6, h7⟩
 | ok _ g l L h hL hl4 hn => exact (hn (by rw [psP_len]; exact confP)).elim
set_option maxRecDepth 100000 in
set_option maxHeartbeats 1600000 in
theorem known34_any (w : World) (hL : tA w) : Calls Try.prog 13 #[] w fun e w' => e = .returned (.bool true) ∧ w.grownBy w' none := by
 obtain ⟨w5, hw5, hg5, hz5, hd5⟩ := dK_lit w
 have hg6 := World.grownBy_alloc w5 (.cells #[.int .i64 2, .int .i64 0, .slice (some ⟨w.heap.size, 0, none⟩) 3 3, .slice (some ⟨w.heap.size + 1 + 1 + 1 + 1, 0, none⟩) 3 3] 42) none
 have hb6 := heap_alloc_new w5 (.cells #[.int .i64 2, .int .i64 0, .slice (some ⟨w.heap.size, 0, none⟩) 3 3, .slice (some ⟨w.heap.size + 1 + 1 + 1 + 1, 0, none⟩) 3 3] 42)
 obtain ⟨w6, hw6⟩ : ∃ w6, w6 = w5.alloc (.cells #[.int .i64 2, .int .i64 0, .slice (some ⟨w.heap.size, 0, none⟩) 3 3, .slice (some ⟨w.heap.size + 1 + 1 + 1 + 1, 0, none⟩) 3 3] 42) := ⟨_, rfl⟩
 rw [← hw6] at hg6 hb6
 obtain ⟨fb, hfb⟩ : ∃ b, b = w.heap.size := ⟨_, rfl⟩
 obtain ⟨nb, hnb⟩ : ∃ b, b = w.heap.size + 1 + 1 + 1 + 1 := ⟨_, rfl⟩
 obtain ⟨P, hP⟩ : ∃ b, b = w.heap.size + 1 + 1 + 1 + 1 + 1 := ⟨_, rfl⟩
 have HW5 := Kh hw5; have HW6 := Kh hw6; have HFB := Kh hfb; have HNB := Kh hnb; have HP := Kh hP
 rw [← hnb, ← hfb] at hd5 hb6 HW6
 rw [show w5.heap.size = P by omega] at hb6
 have HB6 := Kh hb6
 have HD := Kh (hd5.kept hg6 (by simp))
 have HG6 := Kh (zA hg5 hg6 (by simp))
 have HZ : Hid (w5.heap.size ≤ w6.heap.size) := Kh hg6.size
 have HL := Kh hL
 obtain ⟨c0, c1, c2, c3⟩ := zG hb6
 clear hw5 hg5 hz5 hd5 hg6 hb6 hw6 hfb hnb hP
 go_enter Try.func13, Try.ntmps13
 go_upto_region 2 with fail
 rw [← HW5.out, ← HP.out, ← HNB.out, ← HFB.out, ← HW6.out]
 have HF5 : Hid (∀ W : World, Calls Try.prog 45 #[.int .i64 5, .int .i64 2, .int .i64 1, .int .i64 0] W (rT W 0 psFL)) := Kh (fun W => by
  have h := rfam5_any 2 1 0 W (by decide) (by decide) (by decide) (by decide) rfl
  rw [show famE 5 ((2 : Nat) : Int) ((1 : Nat) : Int) ((0 : Nat) : Int) = 0 from famFE, show famL 5 ((2 : Nat) : Int) ((1 : Nat) : Int) ((0 : Nat) : Int) = psFL from famF] at h
  exact h)
 have HF6 : Hid (∀ W : World, Calls Try.prog 45 #[.int .i64 6, .int .i64 2, .int .i64 1, .int .i64 0] W (rT W 0 psPL)) := Kh (fun W => by
  have h := rfam6_any 2 1 0 W (by decide) (by decide) (by decide) (by decide) rfl
  rw [show famE 6 ((2 : Nat) : Int) ((1 : Nat) : Int) ((0 : Nat) : Int) = 0 from famPE, show famL 6 ((2 : Nat) : Int) ((1 : Nat) : Int) ((0 : Nat) : Int) = psPL from famPP] at h
  exact h)
 have HOFC : Hid (∀ (W : World) (pv : Value) (ps : List (List ByteArray)), w6.grownBy W none → PatsIn W.heap.size W pv ps → ps.length ≤ 4096 → Calls Try.prog 19 #[.agg #[.int .i64 2, .int .i64 0, .slice (some ⟨fb, 0, none⟩) 3 3, .slice (some ⟨nb, 0, none⟩) 3 3], pv] W (OfRet W dK ps)) := Kh (fun W pv ps hW hp h4 => cof_any W.heap.size W _ pv dK ps (Nat.le_refl _) ((HD.out.kept hW (by simp)).mono (by have := HZ.out; have := hW.size; omega)) hp h4)
 go_wp2_with fail
 refine (HF5.out _).mono ?_
 rintro e w7 ⟨sa, sc, svs, rfl, hrt, hrs, hg7⟩
 have HPF := Kh (mU hrt hrs smallF)
 have HG7 := Kh hg7
 have HB7 := Kh (zB HB6.out hg7 (by simp))
 obtain ⟨c0, c1, c2, c3⟩ := zG HB7.out
 have hl7 : psFL.length = 7 := rfl
 rw [hl7] at HPF ⊢
 clear hrt hrs hg7 HF5
 go_wp2_with fail
 refine (HOFC.out _ _ psF HG7.out HPF.out (by rw [psF_len]; omega)).mono ?_
 rintro e w8 ⟨v8, u1, u2, E8, rfl, hout, hg8⟩
 obtain ⟨rfl, g, hdia, hh⟩ := knF hout
 obtain ⟨ap, cp, ac, cc, rfl⟩ := cells_holds hdia
 have HDIA := Kh hdia; have HH := Kh hh
 have HG8 := Kh (zA HG7.out hg8 (by simp))
 obtain ⟨m1, hm1⟩ : ∃ m, m = g.pats.length := ⟨_, rfl⟩
 obtain ⟨m2, hm2⟩ : ∃ m, m = g.chos.length := ⟨_, rfl⟩
 obtain ⟨rt, hrt⟩ : ∃ m, m = g.root := ⟨_, rfl⟩
 rw [← hm1, ← hm2, ← hrt] at HDIA ⊢
 have hg9 := World.grownBy_alloc w8 (.cells #[.slice ap m1 cp, .slice ac m2 cc, .int .i64 rt] 25) none
 have hb9 := heap_alloc_new w8 (.cells #[.slice ap m1 cp, .slice ac m2 cc, .int .i64 rt] 25)
 obtain ⟨w9, hw9⟩ : ∃ w9, w9 = w8.alloc (.cells #[.slice ap m1 cp, .slice ac m2 cc, .int .i64 rt] 25) := ⟨_, rfl⟩
 obtain ⟨R, hR⟩ : ∃ R, R = w8.heap.size := ⟨_, rfl⟩
 rw [← hw9] at hg9 hb9
 rw [← hR] at hb9
 have HW9 := Kh hw9; have HRE := Kh hR; have HB9 := Kh hb9
 have HGH9 := Kh hg9
 have HG9 := Kh (zA HG8.out hg9 (by simp))
 clear hout hg8 hdia hh hm1 hm2 hrt hg9 hb9 hw9 hR c0 c1 c2 c3 HPF
 go_upto_region 4 with fail
 rw [← HW9.out, ← HRE.out]
 go_wp2_with fail
 refine (HF6.out _).mono ?_
 rintro e w10 ⟨sb, sd, svs2, rfl, hrt, hrs, hg10⟩
 have HPP := Kh (mU hrt hrs smallP)
 have HGH10 := Kh (zE HGH9.out hg10)
 have HG910 := Kh hg10
 have HG10 := Kh (zA HG9.out hg10 (by simp))
 obtain ⟨c0, c1, c2, c3⟩ := zG (zB HB6.out HG10.out (by simp))
 have hl10 : psPL.length = 2 := rfl
 rw [hl10] at HPP ⊢
 clear hrt hrs hg10 HF6
 go_wp2_with fail
 refine (HOFC.out _ _ psP HG10.out HPP.out (by rw [psP_len]; omega)).mono ?_
 rintro e w11 ⟨v11, s1, s2, E11, rfl, hout, hg11⟩
 obtain ⟨rfl, rfl, u, v, hs1, hs2, hu1, hv1, hu2, hv2, hu3, hv3⟩ := knP hout
 have HE1 : Hid (∀ W : World, Calls Try.prog 46 #[.string s1] W fun e w' => e = .returned (.bool true) ∧ W = w') := Kh (fun W => by
  have := ends_any W u hu1 hu2
  rwa [← hs1, hu3] at this)
 have HE2 : Hid (∀ W : World, Calls Try.prog 46 #[.string s2] W fun e w' => e = .returned (.bool false) ∧ W = w') := Kh (fun W => by
  have := ends_any W v hv1 hv2
  rwa [← hs2, hv3] at this)
 have hz1 : s1.size ≤ 4000 := by rw [hs1, strOfNums_size]; simpa [lets] using hu2
 have hz2 : s2.size ≤ 4000 := by rw [hs2, strOfNums_size]; simpa [lets] using hv2
 have HGH11 := Kh (zE HGH10.out hg11)
 have HG1011 := Kh hg11
 have HG11 := Kh (zA HG10.out hg11 (by simp))
 clear hout hg11 hs1 hs2 hu1 hv1 hu2 hv2 hu3 hv3 c0 c1 c2 c3 HPP HOFC
 obtain ⟨w12, hw12⟩ : ∃ w12, w12 = w11.alloc (.cells #[.slice none 0 0, .slice none 0 0, .int .i64 0] 25) := ⟨_, rfl⟩
 have hg12 := World.grownBy_alloc w11 (.cells #[.slice none 0 0, .slice none 0 0, .int .i64 0] 25) none
 rw [← hw12] at hg12
 have HW12 := Kh hw12
 have HGH12 := Kh (zE HGH11.out hg12)
 have HG12 := Kh (zA HG11.out hg12 (by simp))
 have HHO : Hid (∀ (W : World) (s : ByteArray) (b : Bool), w8.grownBy W none → s.size ≤ maxLen → diaH g s = b → Calls Try.prog 11 #[.agg #[.slice ap m1 cp, .slice ac m2 cc, .int .i64 rt], .string s] W fun e w' => e = .returned (.bool b) ∧ W.grownBy w' none) := Kh (fun W s b hW hs hb => by
  have := jQ w8.heap.size W _ g s hW.size (HDIA.out.kept hW (by simp)) hs (HL.out.kept (zA (zA HG6.out HG8.out (by simp)) hW (by simp)) (by simp))
  rwa [hb] at this)
 have HA1 : Hid (diaH g ⟨#[97, 98]⟩ = true) := Kh (by rw [HH.out _ (by decide)]; exact acc_ab.1)
 have HA2 : Hid (diaH g ⟨#[98, 97]⟩ = false) := Kh (by rw [HH.out _ (by decide)]; exact acc_ab.2.1)
 have HA3 : Hid (diaH g ⟨#[98, 98]⟩ = false) := Kh (by rw [HH.out _ (by decide)]; exact acc_ab.2.2)
 have hm : (2 : Nat) ≤ maxLen := by unfold maxLen; omega
 have HGB12 : Hid (w9.grownBy w12 none) := Kh (zE (zE HG910.out HG1011.out) hg12)
 have HB12 := Kh (zB HB9.out (HGB12.out) (by simp))
 clear hw12 hg12
 go_upto_region 6 with fail
 rw [← HW12.out]
 obtain ⟨x0, x1, x2⟩ := zL HB12.out
 go_wp2_with fail
 refine (HHO.out _ ⟨#[97, 98]⟩ true HGH12.out hm HA1.out).mono ?_
 rintro e w13 ⟨rfl, hg13⟩
 have HGH13 := Kh (zE HGH12.out hg13)
 have HG13 := Kh (zA HG12.out hg13 (by simp))
 obtain ⟨x0, x1, x2⟩ := zL (zB HB12.out hg13 (by simp))
 have HB13 := Kh (zB HB12.out hg13 (by simp))
 clear hg13
 go_wp2_with fail
 refine (HHO.out _ ⟨#[98, 97]⟩ false HGH13.out hm HA2.out).mono ?_
 rintro e w14 ⟨rfl, hg14⟩
 have HGH14 := Kh (zE HGH13.out hg14)
 have HG14 := Kh (zA HG13.out hg14 (by simp))
 obtain ⟨x0, x1, x2⟩ := zL (zB HB13.out hg14 (by simp))
 clear hg14
 go_wp2_with fail
 refine (HHO.out _ ⟨#[98, 98]⟩ false HGH14.out hm HA3.out).mono ?_
 rintro e w15 ⟨rfl, hg15⟩
 have HG15 := Kh (zA HG14.out hg15 (by simp))
 clear hg15 x0 x1 x2
 go_wp2_with fail
 refine (HE1.out _).mono ?_
 rintro e w15 ⟨rfl, rfl⟩
 go_wp2_with fail
 refine (HE2.out _).mono ?_
 rintro e w15 ⟨rfl, rfl⟩
 have hz1' : (s1.size : Int) ≤ 4000 := by omega
 have hz2' : (s2.size : Int) ≤ 4000 := by omega
 go_wp2
 go_ret
 exact ⟨rfl, zA HG6.out HG15.out (by simp)⟩
end Go.Proofs.Ytjfdomfendbhfaa
namespace Go.Proofs.Ytjfdomfendbhfaa
open Go.RowKit
set_option maxRecDepth 100000 in
set_option maxHeartbeats 400000 in
theorem rvalW_any (B : Nat) (w : World) (v : Value) (bs : List ByteArray) (letters : Int) (h : Row B w v (txtV bs)) (hs : ∀ i (hi : i < bs.length), bs[i].size ≤ maxLen) :
    Calls Try.prog 33 #[.agg #[v], .int .i64 letters] w fun e w' => e = .returned (.int .i64 (patW bs letters)) ∧ w.grownBy w' none := by
  have hlm := h.len_le
  rw [zU] at hlm
  have hlm' : bs.length ≤ 9223372036854775807 := by unfold maxLen at hlm; omega
  have H := Kh h; have HS := Kh hs
  obtain ⟨a, cap, rfl⟩ := h.shape
  rw [zU] at H ⊢
  clear h hs hlm
  by_cases h1 : letters < 1 ∨ 6 < letters
  · have e1 : decide (1 ≤ letters ∧ letters ≤ 6) = false := by rw [decide_eq_false_iff_not]; omega
    have H1 := Kh h1
    clear h1
    go_enter Try.func33, Try.ntmps33
    go_wp2_with fail
    refine (yT _ letters).mono ?_
    rintro e w' ⟨rfl, rfl⟩
    rw [e1]
    go_wp2
    go_ret
    exact ⟨zW (by rw [patW, if_pos H1.out]), World.grownBy_alloc _ _ _⟩
  have e1 : decide (1 ≤ letters ∧ letters ≤ 6) = true := by rw [decide_eq_true_eq]; omega
  go_enter Try.func33, Try.ntmps33
  go_wp2_with fail
  refine (yT _ letters).mono ?_
  rintro e w' ⟨rfl, rfl⟩
  rw [e1]
  go_wp2
  go_loopg [5, 7, 16] bs.length (fun gh t a7 i wr => w.alloc (.cells #[.slice a bs.length cap] 28) = wr ∧ ∃ k : Nat, gh + k = bs.length ∧ i = .int .i64 k ∧ t = .int .i64 (totW (bs.take k)))
  case atStart => exact ⟨rfl, 0, rfl, rfl, rfl⟩
  case round =>
    obtain ⟨hw, k, hgh, rfl, rfl⟩ := hrel
    have HGH := Kh hgh
    clear hgh
    by_cases hlt : k < bs.length
    · have hlt' : (k : Int) < bs.length := by omega
      obtain ⟨kb, off, kc, e, _, hk1, hk2, hkr⟩ := (H.out.kept (World.grownBy_alloc w (.cells #[.slice a bs.length cap] 28) none) (by simp)).some_ (by rw [zU]; omega)
      rw [hw] at hkr
      rw [zU] at e hk1
      simp only [Value.slice.injEq] at e
      obtain ⟨rfl, _, rfl⟩ := e
      have hc := wV hkr k hlt
      have HS2 := Kh (mI bs k hlt)
      obtain ⟨u, hu⟩ : ∃ u, u = bs.getD k ⟨#[]⟩ := ⟨_, rfl⟩
      have hus : u.size ≤ 9223372036854775807 := by
        rw [hu, zF hlt]; have := HS.out k hlt; unfold maxLen at this; omega
      rw [← hu] at hc HS2
      have HW := Kh hw
      clear hkr hu hw
      go_wp2
      go_roundg (bs.length - (k + 1))
      case measure => have := HGH.out; omega
      case rel => exact ⟨HW.out, k + 1, by have := HGH.out; omega, by go_num, by rw [HS2.out]⟩
    · have hkn : k = bs.length := by have := HGH.out; omega
      have HT : Hid (totW (bs.take k) = totW bs) := Kh (by rw [hkn, List.take_length])
      rw [HT.out]
      have hkn' : ¬ (k : Int) < bs.length := by omega
      have HG : Hid (w.grownBy wr none) := Kh (by rw [← hw]; exact World.grownBy_alloc _ _ _)
      have hb := heap_alloc_new w (.cells #[.slice a bs.length cap] 28)
      rw [hw] at hb
      have c0 : wr.cell? ⟨w.heap.size, 0, none⟩ = some (.slice a bs.length cap) := by simpa using zI hb 0 (by simp)
      have HR : Hid (Row B wr (.slice a bs.length cap) (txtV bs)) := Kh (H.out.kept HG.out (by simp))
      clear hkn hw hb HGH
      obtain ⟨tw, htw⟩ : ∃ tw, tw = totW bs := ⟨_, rfl⟩
      rw [← htw]
      have HTW := Kh htw
      clear htw
      by_cases h3 : 8 < bs.length
      · have h3' : (8 : Int) < bs.length := by omega
        go_wp2
        go_ret
        exact ⟨zW (by rw [patW, if_neg (by omega), if_pos h3]), HG.out⟩
      have h3' : ¬ (8 : Int) < bs.length := by omega
      by_cases h4 : 64 < tw
      · go_wp2
        go_ret
        exact ⟨zW (by rw [patW, if_neg (by omega), if_neg (by omega), if_pos (by rw [← HTW.out]; exact h4)]), HG.out⟩
      by_cases h5 : bs.length = 0
      · have h5' : ((bs.length : Int) == 0) = true := by simp [h5]
        have H5 := Kh h5; clear h5
        go_wp2
        go_ret
        exact ⟨zW (by rw [patW, if_neg (by omega), if_neg (by omega), if_neg (by rw [← HTW.out]; omega), if_pos H5.out]), HG.out⟩
      have h5' : ((bs.length : Int) == 0) = false := by rw [beq_eq_false_iff_ne]; omega
      go_wp2
      go_loopg [8, 9, 40] bs.length (fun gh a8 a9 i wq => wr = wq ∧ ∃ k : Nat, gh + k = bs.length ∧ i = .int .i64 k ∧ xL bs.length letters k (bs.drop k) = xL bs.length letters 0 bs)
      case atStart => exact ⟨rfl, 0, rfl, rfl, rfl⟩
      case round =>
        obtain ⟨rfl, j, hgh, rfl, hok⟩ := hrel
        have HGH := Kh hgh; have HOK := Kh hok
        clear hgh hok
        by_cases hj : j < bs.length
        · have hj' : (j : Int) < bs.length := by omega
          obtain ⟨kb, off, kc, e, _, hk1, hk2, hkr⟩ := HR.out.some_ (by rw [zU]; omega)
          rw [zU] at e hk1
          simp only [Value.slice.injEq] at e
          obtain ⟨rfl, _, rfl⟩ := e
          have hc := wV hkr j hj
          obtain ⟨u, hu⟩ : ∃ u, u = bs.getD j ⟨#[]⟩ := ⟨_, rfl⟩
          have hus : u.size ≤ maxLen := by rw [hu, zF hj]; exact HS.out j hj
          rw [← hu] at hc
          have HU : Hid (u = bs[j]) := Kh (by rw [hu, zF hj])
          clear hkr hu
          go_wp2_with (go_at_call 43; refine (qQ u letters _ hus).mono ?_; rintro e w' ⟨rfl, rfl⟩)
          all_goals first
            | (go_ret
               exact ⟨zW (by rw [mW (by omega) (by omega) (by rw [← HTW.out]; omega) (by omega), jB hj (by rw [← HU.out]; first | exact lD (by assumption) (by assumption) (List.isEmpty_iff.2 (by assumption)) | exact lE (by assumption)) HOK.out]; rfl), HG.out⟩)
            | (go_roundg (bs.length - (j + 1))
               case rel => exact ⟨rfl, j + 1, by have := HGH.out; omega, by go_num, lA hj (lC (by rw [← HU.out]; assumption) (by rw [← HU.out]; first | (left; omega) | (right; exact Bool.eq_false_iff.2 (fun e => absurd (List.isEmpty_iff.1 e) (by assumption))))) HOK.out⟩
               case measure => have := HGH.out; omega)
        · have hj' : ¬ (j : Int) < bs.length := by omega
          have e : xL bs.length letters j (bs.drop j) = true := by rw [List.drop_eq_nil_of_le (by omega)]; rfl
          have HE := Kh e
          clear e
          go_wp2
          go_ret
          exact ⟨zW (by rw [mW (by omega) (by omega) (by rw [← HTW.out]; omega) (by omega), ← HOK.out, HE.out]; rfl), HG.out⟩
set_option maxRecDepth 100000 in
set_option maxHeartbeats 800000 in
theorem oY (B : Nat) (w : World) (v : Value) (g : DiaV) (letters : Int) (hB : B ≤ w.heap.size) (h : rB B w v g) :
  Calls Try.prog 10 #[v, .int .i64 letters] w fun e w' => e = .returned (.int .i64 (diaE g letters)) ∧ w.grownBy w' none := by
 obtain ⟨pv, cv, rfl, hp, hc⟩ := h
 obtain ⟨pa, pc, rfl⟩ := hp.shape
 obtain ⟨ca, cc, rfl⟩ := hc.shape
 have hpl := hp.len_le
 have hcl := hc.len_le
 unfold maxLen at hpl hcl
 obtain ⟨ps, cs, root⟩ := g
 simp only at hp hc hpl hcl ⊢
 obtain ⟨np, hnp⟩ : ∃ n, n = ps.length := ⟨_, rfl⟩
 obtain ⟨nc, hnc⟩ : ∃ n, n = cs.length := ⟨_, rfl⟩
 rw [← hnp] at hp hpl ⊢
 rw [← hnc] at hc hcl ⊢
 have hg1 := World.grownBy_alloc w (.cells #[.slice pa np pc, .slice ca nc cc, .int .i64 root] 25) none
 have hb1 := heap_alloc_new w (.cells #[.slice pa np pc, .slice ca nc cc, .int .i64 root] 25)
 obtain ⟨wA, hWA⟩ : ∃ w1, w1 = w.alloc (.cells #[.slice pa np pc, .slice ca nc cc, .int .i64 root] 25) := ⟨_, rfl⟩
 obtain ⟨P, hP⟩ : ∃ P, P = w.heap.size := ⟨_, rfl⟩
 rw [← hWA] at hg1 hb1
 rw [← hP] at hb1
 have hp1 := hp.kept hg1 (by simp)
 have hc1 := hc.kept hg1 (by simp)
 obtain ⟨p0, p1, p2⟩ := zL hb1
 have hzA := hg1.size
 have HNP := Kh hnp; have HNC := Kh hnc
 have HPS := Kh hp1; have HCS := Kh hc1; have HB1 := Kh hb1
 have HWA := Kh hWA; have HPE := Kh hP; have HGA := Kh hg1
 have HBW : Hid (B ≤ wA.heap.size) := Kh (by omega)
 clear hp hc hp1 hc1 hg1 hb1 hWA hP hnp hnc hzA
 go_enter Try.func10, Try.ntmps10
 go_upto_region 1 with fail
 rw [← HWA.out, ← HPE.out]
 by_cases h1 : letters < 1 ∨ 6 < letters
 ·have e1 : decide (1 ≤ letters ∧ letters ≤ 6) = false := by rw [decide_eq_false_iff_not]; omega
  have H1 := Kh h1
  clear h1
  go_wp2_with fail
  refine (yT _ letters).mono ?_
  rintro e w' ⟨rfl, rfl⟩
  rw [e1]
  go_wp2
  go_ret
  exact ⟨zW (diaE_arg H1.out).symm, HGA.out⟩
 have e1 : decide (1 ≤ letters ∧ letters ≤ 6) = true := by rw [decide_eq_true_eq]; omega
 have H1 : Hid (¬ (letters < 1 ∨ 6 < letters)) := Kh h1
 clear h1
 go_upto_region 1 with fail
 go_wp2_with fail
 refine (yT _ letters).mono ?_
 rintro e w' ⟨rfl, rfl⟩
 rw [e1]
 by_cases h3 : 300 < np
 ·have h3' : (300 : Int) < np := by omega
  go_wp2
  go_ret
  exact ⟨zW (nZ H1.out (.inl (by rw [← HNP.out]; exact h3))).symm, HGA.out⟩
 have h3' : ¬ (300 : Int) < np := by omega
 by_cases h4 : 20000 < nc
 ·have h4' : (20000 : Int) < nc := by omega
  go_wp2
  go_ret
  exact ⟨zW (nZ H1.out (.inr (by rw [← HNC.out]; exact h4))).symm, HGA.out⟩
 have h4' : ¬ (20000 : Int) < nc := by omega
 have H3 : Hid (¬ (300 < ps.length ∨ 20000 < cs.length)) := Kh (by rw [← HNP.out, ← HNC.out]; omega)
 go_wp2
 go_loopg [6, 7, 28] np (fun gh s6 s7 i wr => ∃ k : Nat, gh + k = np ∧ i = .int .i64 k ∧ wJ letters (ps.drop k) = wJ letters ps ∧ wA.grownBy wr none)
 case atStart => exact ⟨0, rfl, rfl, rfl, zK _ _⟩
 case round =>
  obtain ⟨k, hgh, rfl, hpe, hg⟩ := hrel
  have HGH := Kh hgh; have HG := Kh hg; have HPEE := Kh hpe
  clear hgh hpe
  by_cases hk : k < np
  ·have hk' : (k : Int) < np := by omega
   have hps := HPS.out.kept hg (by simp)
   obtain ⟨b, off, cap, e, hbB, hb2, hb3, hall⟩ := hps.at_ (by rw [← HNP.out]; omega)
   rw [← HNP.out] at e hb2 hall
   simp only [Value.slice.injEq, true_and] at e
   obtain ⟨rfl, rfl⟩ := e
   obtain ⟨sa, sc, c1, hrow, hsz⟩ := hall k hk
   obtain ⟨q, hq⟩ : ∃ q, q = ps.getD k [] := ⟨_, rfl⟩
   rw [← hq] at c1 hrow hsz
   have hmx : pc ≤ 9223372036854775807 := by unfold maxLen at hb3; omega
   have HV : Hid (∀ W : World, wr.grownBy W none → Calls Try.prog 33 #[.agg #[.slice sa q.length sc], .int .i64 letters] W fun e w' => e = .returned (.int .i64 (patW q letters)) ∧ wA.grownBy w' none) := Kh (fun W hW => (rvalW_any B W _ q letters (hrow.kept hW (by simp)) hsz).mono fun e w' ⟨he, hg'⟩ => ⟨he, zA HG.out (zE hW hg') (by simp)⟩)
   have HQ := Kh hq
   obtain ⟨E, hE⟩ : ∃ E, E = patW q letters := ⟨_, rfl⟩
   rw [← hE] at HV
   have HE := Kh hE
   obtain ⟨ql, hql⟩ : ∃ n, n = q.length := ⟨_, rfl⟩
   rw [← hql] at c1 HV
   clear hps hall hrow hsz hq hg hE hql
   go_wp2_with fail
   refine (HV.out _ (World.grownBy_alloc wr _ none)).mono ?_
   rintro e w1 ⟨rfl, hg1⟩
   have HG1 := Kh hg1
   clear hg1 HV
   by_cases hE : E = 0
   ·have e1 : (E != 0) = false := by simp [hE]
    have HE0 := Kh hE
    clear hE
    go_wp2
    go_roundg (np - (k + 1))
    case measure => have := HGH.out; omega
    case rel => exact ⟨k + 1, by have := HGH.out; omega, by go_num, (oI (by rw [← HNP.out]; exact hk) (by rw [← HQ.out, ← HE.out]; exact HE0.out)).trans HPEE.out, HG1.out⟩
   ·have e1 : (E != 0) = true := by rw [bne_iff_ne]; exact hE
    have HE0 := Kh hE
    clear hE
    go_wp2
    go_ret
    exact ⟨zW (by rw [diaE_pat (g := ⟨ps, cs, root⟩) H1.out H3.out (k := k) (by rw [← HNP.out]; exact hk) HPEE.out (by rw [← HQ.out, ← HE.out]; exact HE0.out)]; show E = patW (ps.getD k []) letters; rw [← HQ.out, ← HE.out]), zA HGA.out (HG1.out) (by simp)⟩
  ·have hkn : k = np := by have := HGH.out; omega
   have HPZ : Hid (wJ letters ps = 0) := Kh (by rw [← HPEE.out]; exact mV (by rw [← HNP.out]; exact hk))
   have HDE : Hid (diaE ⟨ps, cs, root⟩ letters = kD ps.length cs root) := Kh (diaE_cho H1.out H3.out HPZ.out)
   have hkn' : ¬ (k : Int) < np := by omega
   obtain ⟨p0, p1, p2⟩ := zL (zB HB1.out hg (by simp))
   clear hkn hg HGH hpl
   go_wp2
   clear p0 p1 p2
   go_loopg [8, 9, 11, 42, 64] nc (fun gh s8 s9 s11 i s64 wr => ∃ k : Nat, gh + k = nc ∧ i = .int .i64 k ∧ xH ps.length cs k ∧ wA.grownBy wr none)
   case atStart => exact ⟨0, rfl, rfl, kB _ _, HG.out⟩
   case round =>
    clear HG hkn' hk
    obtain ⟨k, hgh, rfl, hct, hg⟩ := hrel
    have HGH := Kh hgh; have HG := Kh hg; have HCT := Kh hct
    clear hgh hct
    by_cases hk : k < nc
    ·have hk' : (k : Int) < nc := by omega
     have hcs := HCS.out.kept hg (by simp)
     have HCR := Kh hcs
     obtain ⟨b, off, cap, e, hbB, hb2, hb3, hch⟩ := hcs.at_ (by rw [← HNC.out]; omega)
     rw [← HNC.out] at e hb2
     simp only [Value.slice.injEq, true_and] at e
     obtain ⟨rfl, rfl⟩ := e
     have hmx : cc ≤ 9223372036854775807 := by unfold maxLen at hb3; omega
     have hkc : k < cs.length := by rw [← HNC.out]; exact hk
     have c1 := hch.p k hkc
     have c2 := hch.y k hkc
     have c3 := hch.n k hkc
     have HCHO := Kh (hch)
     obtain ⟨c, hcc⟩ : ∃ c, c = cs.getD k default := ⟨_, rfl⟩
     rw [← hcc] at c1 c2 c3
     have HC := Kh hcc
     have hCB : Hid (choB ps.length cs k = (decide (0 ≤ c.p ∧ c.p < np) && (refB cs k c.p c.y && refB cs k c.p c.n))) := Kh (by
      rw [hcc, HNP.out]; rfl)
     clear hcs hch hkc hcc
     obtain ⟨x, y, n⟩ := c
     simp only at c1 c2 c3 hCB
     have hb2 := heap_alloc_new wr (.cells #[.int .i64 x, .int .i64 y, .int .i64 n] 45)
     have hg2 := World.grownBy_alloc wr (.cells #[.int .i64 x, .int .i64 y, .int .i64 n] 45) none
     obtain ⟨w2, hw2⟩ : ∃ w2, w2 = wr.alloc (.cells #[.int .i64 x, .int .i64 y, .int .i64 n] 45) := ⟨_, rfl⟩
     obtain ⟨R, hR⟩ : ∃ R, R = wr.heap.size := ⟨_, rfl⟩
     rw [← hw2] at hb2 hg2
     rw [← hR] at hb2
     have HW2 := Kh hw2; have HRE := Kh hR; have HB2 := Kh hb2; have HG2 := Kh hg2
     have HBP2 := Kh (zB (zB HB1.out hg (by simp)) hg2 (by simp))
     obtain ⟨p0, p1, p2⟩ := zL HBP2.out
     obtain ⟨r0, r1, r2⟩ := zL hb2
     clear hw2 hR hb2 hg2 hg
     go_upto_region 15 with fail
     rw [← HW2.out, ← HRE.out]
     clear c1 c2 c3
     by_cases hx0 : x < 0
     ·have HF : Hid (choB ps.length cs k = false) := Kh (by rw [hCB.out, show decide (0 ≤ x ∧ x < (np : Int)) = false by simp; omega]; rfl)
      go_wp2
      go_ret
      exact ⟨zW (by rw [HDE.out, vG (by rw [← HNC.out]; exact hk) HF.out]), zA HGA.out (zA HG.out HG2.out (by simp)) (by simp)⟩
     by_cases hx1 : (np : Int) ≤ x
     ·have HF : Hid (choB ps.length cs k = false) := Kh (by rw [hCB.out, show decide (0 ≤ x ∧ x < (np : Int)) = false by simp; omega]; rfl)
      go_wp2
      go_ret
      exact ⟨zW (by rw [HDE.out, vG (by rw [← HNC.out]; exact hk) HF.out]), zA HGA.out (zA HG.out HG2.out (by simp)) (by simp)⟩
     have hx2 : decide (0 ≤ x ∧ x < (np : Int)) = true := by simp; omega
     rw [hx2, Bool.true_and] at hCB
     clear hx2
     go_upto_region 17 with fail
     have hb5 := heap_alloc_new w2 (.cells #[.int .i64 y, .int .i64 n] 3)
     have hg5 := World.grownBy_alloc w2 (.cells #[.int .i64 y, .int .i64 n] 3) none
     obtain ⟨w5, hw5⟩ : ∃ w5, w5 = w2.alloc (.cells #[.int .i64 y, .int .i64 n] 3) := ⟨_, rfl⟩
     obtain ⟨R5, hR5⟩ : ∃ R, R = w2.heap.size := ⟨_, rfl⟩
     rw [← hw5] at hb5 hg5
     rw [← hR5] at hb5
     have HW5 := Kh hw5; have HR5 := Kh hR5; have HB5 := Kh hb5; have HG5 := Kh hg5
     clear hw5 hR5 hb5 hg5
     go_upto_region 18 with fail
     rw [← HW5.out, ← HR5.out]
     clear p0 p1 p2 r0 r1 r2
     obtain ⟨wo, rfl⟩ : ∃ wo : World, wo = wr := ⟨_, rfl⟩
     go_loopg [11, 64] 2 (fun gh s11 i wq => ∃ j : Nat, gh + j = 2 ∧ i = .int .i64 j ∧ (∀ i, i < j → refB cs k x ([y, n].getD i 0) = true) ∧ w5.grownBy wq none)
     case atStart => exact ⟨0, rfl, rfl, fun i hi => by omega, zK _ _⟩
     case round =>
      obtain ⟨j, hghj, rfl, hall, hg6⟩ := hrel
      have HGJ := Kh hghj; have HALL := Kh hall
      have HG6 := Kh (zA (zA (zA HG.out HG2.out (by simp)) HG5.out (by simp)) hg6 (by simp))
      have HG56 := Kh hg6
      obtain ⟨p0, p1, p2⟩ := zL (zB HB1.out HG6.out (by simp))
      obtain ⟨r0, r1, r2⟩ := zL (zB (zB HB2.out HG5.out (by simp)) hg6 (by simp))
      have hl5 := zB HB5.out hg6 (by simp)
      clear hghj hall
      by_cases hj : j < 2
      ·have hj' : (j : Int) < 2 := by omega
       obtain ⟨r, hr⟩ : ∃ r, r = [y, n].getD j 0 := ⟨_, rfl⟩
       have cj : wr.cell? ⟨R5, j, none⟩ = some (.int .i64 r) := by
        have := zI hl5 j (by simpa using hj)
        rw [this, hr]
        rcases (by omega : j = 0 ∨ j = 1) with rfl | rfl <;> rfl
       have HRR := Kh hr
       have HBAD : Hid (refB cs k x r = false → choB ps.length cs k = false) := Kh (fun e => by
        rw [hCB.out]
        rcases (by omega : j = 0 ∨ j = 1) with rfl | rfl
        ·have h1 : r = y := hr
         rw [← h1, e]; rfl
        ·have h1 : r = n := hr
         rw [← h1, e, Bool.and_false])
       have HGOOD : Hid (refB cs k x r = true → ∀ i, i < j + 1 → refB cs k x ([y, n].getD i 0) = true) := Kh (fun e i hi => by
        rcases Nat.lt_succ_iff_lt_or_eq.1 hi with hi | rfl
        ·exact HALL.out i hi
        ·rw [← HRR.out]; exact e)
       have HKC : Hid (k < cs.length) := Kh (by rw [← HNC.out]; exact hk)
       have hip : (0 : Int) ≤ k := by omega
       clear hl5 hr hg6
       by_cases h0 : r < 0
       ·have HR : Hid (refB cs k x r = false) := Kh (by simp [refB]; omega)
        have hd : decide (r < 0) = true := by simpa using h0
        go_wp2
        go_quiet (fail)
        go_wp2
        go_ret
        exact ⟨zW (by rw [HDE.out, vG HKC.out (HBAD.out HR.out)]), zA HGA.out (zA HG6.out (by first | exact zM _ none | exact zV _ _ none) (by simp)) (by simp)⟩
       have hd0 : decide (r < 0) = false := by simpa using h0
       by_cases h1 : 1 + (k : Int) < r
       ·have HR : Hid (refB cs k x r = false) := Kh (by simp [refB]; omega)
        have hd : decide (1 + (k : Int) < r) = true := by simpa using h1
        go_wp2
        go_quiet (fail)
        go_wp2
        go_ret
        exact ⟨zW (by rw [HDE.out, vG HKC.out (HBAD.out HR.out)]), zA HGA.out (zA HG6.out (by first | exact zM _ none | exact zV _ _ none) (by simp)) (by simp)⟩
       have hd1 : decide (1 + (k : Int) < r) = false := by simpa using h1
       by_cases h2 : r < 2
       ·have HR : Hid (refB cs k x r = true) := Kh (by simp [refB]; omega)
        have h2' : ¬ 2 ≤ r := by omega
        have hd2 : decide (2 ≤ r) = false := by simpa using h2
        go_wp2
        go_quiet (fail)
        go_wp2
        go_roundg (2 - (j + 1))
        case measure => have := HGJ.out; omega
        case rel => exact ⟨j + 1, by have := HGJ.out; omega, by go_num, HGOOD.out HR.out, zA HG56.out (by first | exact zM _ none | exact zV _ _ none) (by simp)⟩
       ·have hd2 : decide (2 ≤ r) = true := by simp; omega
        obtain ⟨q, hq⟩ : ∃ q : Nat, r = (q : Int) + 2 := ⟨(r - 2).toNat, by omega⟩
        subst hq
        have hch6 := ((HCHO.out.kept HG2.out (by simp)).kept HG5.out (by simp)).kept HG56.out (by simp)
        have c2 := hch6.p q (by have := HNC.out; omega)
        have e2 : IntKind.i64.wrap ((q : Int) + 2 - 2) = (q : Int) := by rw [show (q : Int) + 2 - 2 = q by omega]; exact wU (by omega)
        have e3 : (q : Int) + 2 - 2 = (q : Int) := by omega
        have hq : q < nc := by omega
        have hq' : (q : Int) < nc := by omega
        obtain ⟨z, hz⟩ : ∃ z, z = (cs.getD q default).p := ⟨_, rfl⟩
        rw [← hz] at c2
        have HR : Hid (refB cs k x ((q : Int) + 2) = !decide (z ≤ x)) := Kh (by
         have e : ((q : Int) + 2).toNat - 2 = q := by omega
         simp only [refB, e, ← hz]
         rw [Bool.eq_iff_iff]
         simp only [Bool.and_eq_true, Bool.not_eq_true', decide_eq_true_eq, decide_eq_false_iff_not]
         omega)
        clear hz hch6
        by_cases hzx : z ≤ x
        ·have hd3 : decide (z ≤ x) = true := by simpa using hzx
         rw [hd3] at HR
         go_wp2
         go_quiet (fail)
         go_wp2
         go_ret
         exact ⟨zW (by rw [HDE.out, vG HKC.out (HBAD.out HR.out)]), zA HGA.out (zA HG6.out (by first | exact zM _ none | exact zV _ _ none) (by simp)) (by simp)⟩
        ·have hd3 : decide (z ≤ x) = false := by simpa using hzx
         rw [hd3] at HR
         go_wp2
         go_quiet (fail)
         go_wp2
         go_roundg (2 - (j + 1))
         case measure => have := HGJ.out; omega
         case rel => exact ⟨j + 1, by have := HGJ.out; omega, by go_num, HGOOD.out HR.out, zA HG56.out (by first | exact zM _ none | exact zV _ _ none) (by simp)⟩
      ·have hj2 : j = 2 := by have := HGJ.out; omega
       have HCT2 : Hid (choB ps.length cs k = true) := Kh (by
        have a1 := HALL.out 0 (by omega)
        have a2 := HALL.out 1 (by omega)
        rw [hCB.out]
        rw [show refB cs k x y = true from a1, show refB cs k x n = true from a2]; rfl)
       have hj' : ¬ (j : Int) < 2 := by omega
       clear hj2 hl5 hg6
       go_wp2
       go_roundg (nc - (k + 1))
       case measure => have := HGH.out; omega
       case rel => exact ⟨k + 1, by have := HGH.out; omega, by go_num, pF HCT.out HCT2.out, HG6.out⟩
    ·have hkn' : ¬ (k : Int) < nc := by omega
     have HCE := Kh (kC (root := root) (by rw [← HNC.out]; exact hk) HCT.out)
     rw [← HNC.out] at HCE
     obtain ⟨p0, p1, p2⟩ := zL (zB HB1.out hg (by simp))
     clear hg
     by_cases h5 : root < 0
     ·go_wp2
      go_ret
      exact ⟨zW (by rw [HDE.out, HCE.out, if_neg (by omega)]), zA HGA.out (HG.out) (by simp)⟩
     by_cases h6 : 1 + (nc : Int) < root
     ·go_wp2
      go_ret
      exact ⟨zW (by rw [HDE.out, HCE.out, if_neg (by omega)]), zA HGA.out (HG.out) (by simp)⟩
     go_wp2
     go_ret
     exact ⟨zW (by rw [HDE.out, HCE.out, if_pos (by omega)]), zA HGA.out (HG.out) (by simp)⟩
def tl (s : ByteArray) : List UInt8 := s.data.toList
theorem yS (s : ByteArray) : (tl s).length = s.size := by simp [tl]
theorem rV (s : ByteArray) (i j : Nat) : tl (s.extract i j) = ((tl s).drop i).take (j - i) := by
 unfold tl
 rw [ByteArray.data_extract, Array.toList_extract, List.extract_eq_take_drop]
theorem ext_size (s : ByteArray) {i j : Nat} (h : j ≤ s.size) : (s.extract i j).size = j - i := by
 rw [← yS, rV, List.length_take, List.length_drop, yS]; omega
theorem jN (s : ByteArray) (i j : Nat) : (s.extract i j).toList = ((tl s).drop i).take (j - i) := by
 rw [ByteArray.toList_eq]; exact rV s i j
theorem mJ (s : ByteArray) : s.toList = tl s := ByteArray.toList_eq s
def NoB (r u : List UInt8) (p : Nat) : Prop := ∀ i, i < p → Lib.occAt r u i = false
theorem occ_ext {r u : ByteArray} {p : Nat} (h : p + u.size ≤ r.size) : ((r.extract p (p + u.size)).toList == u.toList) = Lib.occAt (tl r) (tl u) p := by
 rw [jN, mJ, Lib.occAt, Bool.eq_iff_iff, beq_iff_eq, List.isPrefixOf_iff_prefix, List.prefix_iff_eq_take, yS, Nat.add_sub_cancel_left]
 exact eq_comm
theorem fit_occ {us : List (List UInt8)} {u v r : List UInt8} {f : Nat} (hno : NoB r u f) (hocc : Lib.occAt r u f = true) (hf : f + u.length ≤ r.length) : Fit (u :: us) v r ↔ Fit us v (r.drop (f + u.length)) := by
 constructor
 ·rintro ⟨p, r', hr, hf'⟩
  have hip : f ≤ p.length := by
   rcases Nat.lt_or_ge p.length f with hlt | hge
   ·have := hno p.length hlt
    rw [nR hr] at this
    cases this
   ·exact hge
  have hd : r.drop (p.length + u.length) = r' := by
   rw [hr, ← List.length_append, List.drop_left]
  have he : r.drop (f + u.length) = (r.drop (f + u.length)).take (p.length - f) ++ r' := by
   have e : r' = (r.drop (f + u.length)).drop (p.length - f) := by rw [List.drop_drop, ← hd]; congr 1; omega
   rw [e, List.take_append_drop]
  rw [he]
  exact hf'.more _
 ·intro h
  exact ⟨_, _, occAt_to hocc (by omega), h⟩
theorem fit_none {us : List (List UInt8)} {u v r : List UInt8} {p : Nat} (hno : NoB r u p) (hp : ¬ p + u.length ≤ r.length) : ¬ Fit (u :: us) v r := by
 rintro ⟨q, r', hr, _⟩
 have hl := congrArg List.length hr
 simp only [List.length_append] at hl
 have := hno q.length (by omega)
 rw [nR hr] at this
 cases this
def kM (bs : List ByteArray) : List UInt8 := tl (bs.getD (bs.length - 1) ⟨#[]⟩)
theorem fits_one {bs : List ByteArray} {s : List UInt8} (h : bs.length = 1) : tB (bs.map (·.data.toList)) s ↔ s = tl (bs.getD 0 ⟨#[]⟩) := by
 match bs, h with
 | [b], _ => exact Iff.rfl
theorem fits_more {bs : List ByteArray} {s : List UInt8} (h : 2 ≤ bs.length) : tB (bs.map (·.data.toList)) s ↔ ∃ r, s = tl (bs.getD 0 ⟨#[]⟩) ++ r ∧ Fit (mid bs) (kM bs) r := by
 match bs, h with
 | b :: c :: rest, _ =>
  have e : ((c :: rest).map (·.data.toList)).getLastD [] = kM (b :: c :: rest) := by
   rw [List.getLastD_eq_getLast?, List.getLast?_eq_getElem?, kM]
   simp only [List.length_map, List.length_cons, List.getElem?_map]
   rw [show rest.length + 1 + 1 - 1 = rest.length + 1 by omega, show rest.length + 1 - 1 = rest.length by omega]
   have h2 : rest.length < (c :: rest).length := by simp
   rw [List.getElem?_eq_getElem h2, zF (show rest.length + 1 < (b :: c :: rest).length by simp)]
   rfl
  show (∃ r, s = b.data.toList ++ r ∧ Fit ((c :: rest).map (·.data.toList)).dropLast (((c :: rest).map (·.data.toList)).getLastD []) r) ↔ _
  rw [e]; rfl
theorem mid_drop {bs : List ByteArray} {q : Nat} (h1 : 1 ≤ q) (h2 : q < bs.length - 1) : (mid bs).drop (q - 1) = tl (bs.getD q ⟨#[]⟩) :: (mid bs).drop q := by
 have hl : q - 1 < (mid bs).length := by rw [uN]; omega
 rw [List.drop_eq_getElem_cons hl, show q - 1 + 1 = q by omega, mid_get bs (q - 1) (by omega), zF (by omega)]
 congr 1
 simp only [tl, show 1 + (q - 1) = q by omega]
set_option maxRecDepth 100000 in
set_option maxHeartbeats 1600000 in
theorem rmatch_any (w : World) (kb off cap : Nat) (bs : List ByteArray) (s : ByteArray) (h : wO w kb off (txtV bs)) (hc1 : bs.length ≤ cap) (hc2 : cap ≤ maxLen) (h0 : 0 < bs.length) (hs : ∀ i (hi : i < bs.length), bs[i].size ≤ 4096) (hss : s.size ≤ 4096) :
  Calls Try.prog 88 #[.slice (some ⟨kb, off, none⟩) bs.length cap, .string s] w fun e w' => e = .returned (.bool (xC (bs.map (·.data.toList)) s.data.toList)) ∧ w.grownBy w' none := by
 have cF := wV h 0 h0
 rw [Nat.add_zero] at cF
 obtain ⟨b0, hb0⟩ : ∃ u, u = bs.getD 0 ⟨#[]⟩ := ⟨_, rfl⟩
 rw [← hb0] at cF
 have hbz : b0.size ≤ 4096 := by rw [hb0, zF h0]; exact hs 0 h0
 have hcm : cap ≤ 9223372036854775807 := by unfold maxLen at hc2; omega
 have HPM : Hid (∀ c : Bool, (c = true ↔ tB (bs.map (·.data.toList)) (tl s)) → c = xC (bs.map (·.data.toList)) s.data.toList) := Kh (fun c hc => by
  rw [Bool.eq_iff_iff, qK]; exact hc)
 have H := Kh h; have HB0 := Kh hb0; have HS := Kh hs
 have HPRE : Hid (tB (bs.map (·.data.toList)) (tl s) → tl b0 <+: tl s) := Kh (fun hf => by
  by_cases h1 : bs.length = 1
  ·rw [fits_one h1, ← hb0] at hf
   rw [hf]; exact List.prefix_refl _
  ·obtain ⟨r, hr, _⟩ := (fits_more (by omega)).1 hf
   rw [← hb0] at hr
   rw [hr]; exact List.prefix_append _ _)
 clear h hb0 hs hc2
 by_cases hlt : s.size < b0.size
 ·have hlt' : decide ((s.size : Int) < (b0.size : Int)) = true := by rw [decide_eq_true_eq]; omega
  go_enter Try.func88, Try.ntmps88
  go_wp2
  go_ret
  refine ⟨zT (HPM.out _ ⟨fun h => (by cases h), fun h => ?_⟩), zK _ _⟩
  have := (HPRE.out h).length_le
  rw [yS, yS] at this
  omega
 have hlt' : decide ((s.size : Int) < (b0.size : Int)) = false := by rw [decide_eq_false_iff_not]; omega
 have hle : b0.size ≤ s.size := by omega
 have hocc := occ_ext (r := s) (u := b0) (p := 0) (by omega)
 rw [Nat.zero_add] at hocc
 by_cases hp : Lib.occAt (tl s) (tl b0) 0 = true
 case neg =>
  have hp' : (!((s.extract 0 b0.size).toList == b0.toList)) = true := by rw [hocc]; simpa using hp
  have HP := Kh hp
  clear hp hocc
  go_enter Try.func88, Try.ntmps88
  go_wp2
  go_ret
  refine ⟨zT (HPM.out _ ⟨fun h => (by cases h), fun h => absurd ?_ HP.out⟩), zK _ _⟩
  rw [Lib.occAt, List.isPrefixOf_iff_prefix]
  exact HPRE.out h
 have hp' : (!((s.extract 0 b0.size).toList == b0.toList)) = false := by rw [hocc, hp]; rfl
 obtain ⟨r0, hr0⟩ : ∃ r, r = s.extract b0.size s.size := ⟨_, rfl⟩
 have hr0z : r0.size ≤ 4096 := by rw [hr0, ext_size s (Nat.le_refl _)]; omega
 have hsplit : tl s = tl b0 ++ tl r0 := by
  rw [Lib.occAt, List.isPrefixOf_iff_prefix] at hp
  obtain ⟨t, ht⟩ := hp
  rw [List.drop_zero] at ht
  rw [hr0, rV, List.take_of_length_le (by rw [List.length_drop, yS]; omega), ← yS b0, ← ht, List.drop_left]
 have HR0 := Kh hr0; have HSP := Kh hsplit
 clear hp hocc hsplit hr0
 by_cases h1 : bs.length = 1
 ·have h1' : ((bs.length : Int) == 1) = true := by simp [h1]
  have H1 := Kh h1
  clear h1
  go_enter Try.func88, Try.ntmps88
  go_wp2
  rw [← HR0.out]
  go_ret
  refine ⟨zT (HPM.out _ ?_), zK _ _⟩
  rw [fits_one H1.out, ← HB0.out, HSP.out, List.isEmpty_iff, mJ]
  constructor
  ·intro h; rw [h, List.append_nil]
  ·intro h; simpa using h
 ·have h1' : ((bs.length : Int) == 1) = false := by rw [beq_eq_false_iff_ne]; omega
  have h2 : 2 ≤ bs.length := by omega
  obtain ⟨R1, hR1⟩ : ∃ R1, R1 = bs.length - 1 := ⟨_, rfl⟩
  have e71 : (bs.length : Int) - 1 = (R1 : Int) := by omega
  have hR1l : R1 < bs.length := by omega
  have hR1i : (R1 : Int) < bs.length := by omega
  have hR1p : 1 ≤ R1 := by omega
  have HR1 := Kh hR1
  have HFM : Hid (tB (bs.map (·.data.toList)) (tl s) ↔ Fit (mid bs) (kM bs) (tl r0)) := Kh (by
   rw [fits_more h2, ← HB0.out, HSP.out]
   constructor
   ·rintro ⟨r, hr, hf⟩
    have := List.append_cancel_left hr
    rw [this]; exact hf
   ·intro hf; exact ⟨_, rfl, hf⟩)
  clear h1 hR1
  go_enter Try.func88, Try.ntmps88
  go_wp2
  rw [← HR0.out]
  clear cF hp' hlt'
  go_loopg [1, 6, 7, 8, 9] R1 (fun gh s1 i s7 s8 s9 wr => ∃ (q : Nat) (r : ByteArray), gh + q = R1 + 1 ∧ i = .int .i64 q ∧ 1 ≤ q ∧ q ≤ R1 ∧ s1 = .string r ∧ r.size ≤ 4096 ∧ (Fit ((mid bs).drop (q - 1)) (kM bs) (tl r) ↔ Fit (mid bs) (kM bs) (tl r0)) ∧ w = wr)
  case atStart => exact ⟨1, r0, rfl, rfl, Nat.le_refl _, hR1p, rfl, hr0z, Iff.rfl, rfl⟩
  case round =>
   obtain ⟨q, r, hgh, rfl, hq1, hqR, rfl, hrz, hfit, rfl⟩ := hrel
   have HGH := Kh hgh; have HFT := Kh hfit
   clear hgh hfit
   by_cases hq : q < R1
   ·have hq' : (q : Int) < R1 := by omega
    have hqb : (q : Int) < bs.length := by omega
    have cu := wV H.out q (by omega)
    obtain ⟨u, hu⟩ : ∃ u, u = bs.getD q ⟨#[]⟩ := ⟨_, rfl⟩
    rw [← hu] at cu
    have huz : u.size ≤ 4096 := by rw [hu, zF (show q < bs.length by omega)]; exact HS.out q (by omega)
    have HMD := Kh (mid_drop (bs := bs) hq1 (by have := HR1.out; omega))
    rw [← hu] at HMD
    clear hu
    go_wp2
    go_loopg [8, 9] (r.size + 1) (fun gh s8 s9 wr => ∃ p : Nat, gh + p = r.size + 1 ∧ s9 = .int .i64 p ∧ w = wr ∧ ((s8 = .int .i64 (-1) ∧ NoB (tl r) (tl u) p) ∨ (∃ f : Nat, f + 1 = p ∧ s8 = .int .i64 f ∧ NoB (tl r) (tl u) f ∧ Lib.occAt (tl r) (tl u) f = true ∧ f + u.size ≤ r.size)))
    case atStart => exact ⟨0, rfl, rfl, rfl, .inl ⟨rfl, fun i hi => by omega⟩⟩
    case round =>
     clear cu
     obtain ⟨p, hghp, rfl, rfl, hcase⟩ := hrel
     have HGP := Kh hghp
     have hpz : p ≤ 4097 := by omega
     clear hghp
     rcases hcase with ⟨rfl, hno⟩ | ⟨f, hfp, rfl, hno, hocc, hfu⟩
     ·have HNO := Kh hno
      clear hno
      by_cases hpu : p + u.size ≤ r.size
      ·have hpu' : decide ((p : Int) + (u.size : Int) ≤ (r.size : Int)) = true := by rw [decide_eq_true_eq]; omega
       have hoe := occ_ext (r := r) (u := u) (p := p) hpu
       by_cases ho : Lib.occAt (tl r) (tl u) p = true
       ·rw [ho] at hoe
        have HO := Kh ho
        clear ho
        go_wp2
        go_roundg (r.size + 1 - (p + 1))
        case measure => have := HGP.out; omega
        case rel => exact ⟨p + 1, by have := HGP.out; omega, by go_num, rfl, .inr ⟨p, rfl, rfl, HNO.out, HO.out, hpu⟩⟩
       ·have ho' : Lib.occAt (tl r) (tl u) p = false := by simpa using ho
        rw [ho'] at hoe
        have HO := Kh ho'
        clear ho ho'
        go_wp2
        go_roundg (r.size + 1 - (p + 1))
        case measure => have := HGP.out; omega
        case rel =>
         refine ⟨p + 1, by have := HGP.out; omega, by go_num, rfl, .inl ⟨rfl, fun i hi => ?_⟩⟩
         by_cases e : i = p
         ·rw [e]; exact HO.out
         ·exact HNO.out i (by omega)
      ·have hpu' : decide ((p : Int) + (u.size : Int) ≤ (r.size : Int)) = false := by rw [decide_eq_false_iff_not]; omega
       go_wp2
       go_ret
       refine ⟨zT (HPM.out _ ⟨fun h => (by cases h), fun h => ?_⟩), zK _ _⟩
       rw [HFM.out, ← HFT.out, HMD.out] at h
       exact absurd h (fit_none HNO.out (by rw [yS, yS]; exact hpu))
     ·have HFP := Kh hfp; have HNO := Kh hno; have HOC := Kh hocc
      have hf1 : ((f : Int) == -1) = false := by rw [beq_eq_false_iff_ne]; omega
      have hrs : (f : Int) + u.size ≤ r.size := by omega
      have hez := ext_size r (i := f + u.size) (j := r.size) (Nat.le_refl _)
      have HEZ := Kh hez
      have HRE : Hid (Fit ((mid bs).drop (q + 1 - 1)) (kM bs) (tl (r.extract (f + u.size) r.size)) ↔ Fit (mid bs) (kM bs) (tl r0)) := Kh (by
       rw [← HFT.out, HMD.out, Nat.add_sub_cancel, fit_occ hno hocc (by rw [yS, yS]; exact hfu), rV, List.take_of_length_le (by rw [List.length_drop, yS]; omega), yS])
      clear hfp hno hocc hez
      by_cases hpu : p + u.size ≤ r.size
      ·have hpu' : decide ((p : Int) + (u.size : Int) ≤ (r.size : Int)) = true := by rw [decide_eq_true_eq]; omega
       go_wp2
       go_roundg (R1 + 1 - (q + 1))
       case measure => have := HGH.out; omega
       case rel => exact ⟨q + 1, _, by have := HGH.out; omega, by go_num, by omega, by omega, rfl, by rw [HEZ.out]; omega, HRE.out, rfl⟩
      ·have hpu' : decide ((p : Int) + (u.size : Int) ≤ (r.size : Int)) = false := by rw [decide_eq_false_iff_not]; omega
       go_wp2
       go_roundg (R1 + 1 - (q + 1))
       case measure => have := HGH.out; omega
       case rel => exact ⟨q + 1, _, by have := HGH.out; omega, by go_num, by omega, by omega, rfl, by rw [HEZ.out]; omega, HRE.out, rfl⟩
   ·have hqe : q = R1 := by omega
    have hq' : ¬ (q : Int) < R1 := by omega
    have cl := wV H.out R1 hR1l
    obtain ⟨v, hv⟩ : ∃ u, u = bs.getD R1 ⟨#[]⟩ := ⟨_, rfl⟩
    rw [← hv] at cl
    have hvz : v.size ≤ 4096 := by rw [hv, zF hR1l]; exact HS.out R1 hR1l
    have HLU : Hid (kM bs = tl v) := Kh (by rw [kM, ← HR1.out, ← hv])
    have HEND : Hid (tB (bs.map (·.data.toList)) (tl s) ↔ ∃ q, tl r = q ++ tl v) := Kh (by
     rw [HFM.out, ← HFT.out, HLU.out, List.drop_eq_nil_of_le (by rw [uN, hqe]; have := HR1.out; omega)]
     exact Iff.rfl)
    clear hv hqe
    by_cases hge : v.size ≤ r.size
    ·have hge' : decide ((v.size : Int) ≤ (r.size : Int)) = true := by rw [decide_eq_true_eq]; omega
     have hge2 : decide ((r.size : Int) ≥ (v.size : Int)) = true := by rw [decide_eq_true_eq]; omega
     obtain ⟨dd, hdd⟩ : ∃ dd, dd = r.size - v.size := ⟨_, rfl⟩
     have edd : (r.size : Int) - (v.size : Int) = (dd : Int) := by omega
     have hddr : (dd : Int) ≤ r.size := by omega
     have HDD := Kh hdd
     clear hdd
     go_wp2
     go_ret
     refine ⟨zT (HPM.out _ ?_), zK _ _⟩
     rw [HEND.out, beq_iff_eq, jN, mJ, List.take_of_length_le (by rw [List.length_drop, yS]; omega)]
     constructor
     ·intro h
      exact ⟨(tl r).take dd, by rw [← h, List.take_append_drop]⟩
     ·rintro ⟨y, hy⟩
      have hyl := congrArg List.length hy
      rw [List.length_append, yS, yS] at hyl
      rw [hy, show dd = y.length by have := HDD.out; omega, List.drop_left]
    ·have hge' : decide ((v.size : Int) ≤ (r.size : Int)) = false := by rw [decide_eq_false_iff_not]; omega
     have hge2 : decide ((r.size : Int) ≥ (v.size : Int)) = false := by rw [decide_eq_false_iff_not]; omega
     go_wp2
     go_ret
     refine ⟨zT (HPM.out _ ⟨fun h => (by cases h), fun h => ?_⟩), zK _ _⟩
     obtain ⟨y, hy⟩ := HEND.out.1 h
     have hyl := congrArg List.length hy
     rw [List.length_append, yS, yS] at hyl
     omega
set_option maxRecDepth 100000 in
set_option maxHeartbeats 800000 in
theorem rMatch_any (B : Nat) (w : World) (v : Value) (bs : List ByteArray) (s : ByteArray) (h : Row B w v (txtV bs)) (hs : ∀ i (hi : i < bs.length), bs[i].size ≤ maxLen) (hss : s.size ≤ maxLen) :
  Calls Try.prog 65 #[.agg #[v], .string s] w fun e w' => e = .returned (.bool (zX bs s)) ∧ w.grownBy w' none := by
 obtain ⟨a, cap, rfl⟩ := h.shape
 rw [zU] at h ⊢
 have H := Kh h
 have hg1 := World.grownBy_alloc w (.cells #[.slice a bs.length cap] 28) none
 have hb1 := heap_alloc_new w (.cells #[.slice a bs.length cap] 28)
 obtain ⟨w1, hw1⟩ : ∃ w1, w1 = w.alloc (.cells #[.slice a bs.length cap] 28) := ⟨_, rfl⟩
 obtain ⟨P, hP⟩ : ∃ P, P = w.heap.size := ⟨_, rfl⟩
 rw [← hw1] at hg1 hb1
 rw [← hP] at hb1
 have c0 : w1.cell? ⟨P, 0, none⟩ = some (.slice a bs.length cap) := by simpa using zI hb1 0 (by simp)
 have HVA := Kh (rvalW_any B w1 _ bs 6 (h.kept hg1 (by simp)) hs)
 have HW1 := Kh hw1; have HP := Kh hP; have HG1 := Kh hg1; have HB1 := Kh hb1
 clear h hg1 hb1 hw1 hP hs
 go_enter Try.func65, Try.ntmps65
 go_upto_region 1 with fail
 rw [← HW1.out, ← HP.out]
 go_wp2_with fail
 refine HVA.out.mono ?_
 rintro e w2 ⟨rfl, hg2⟩
 have HG2 := Kh (zA HG1.out hg2 (by simp))
 have c2 : w2.cell? ⟨P, 0, none⟩ = some (.slice a bs.length cap) := by simpa using zI (zB HB1.out hg2 (by simp)) 0 (by simp)
 clear hg2 HVA c0
 by_cases hE : patW bs 6 = 0
 case neg =>
  have hM : Hid (zX bs s = false) := Kh (by
   have : ¬ yB bs 6 = 0 := fun e => hE (xV.2 e)
   simp [zX, this])
  obtain ⟨E, hEE⟩ : ∃ E, E = patW bs 6 := ⟨_, rfl⟩
  rw [← hEE] at hE ⊢
  have e1 : (E == 0) = false := by rw [beq_eq_false_iff_ne]; exact hE
  clear hE hEE
  go_wp2
  go_ret
  exact ⟨zT hM.out.symm, HG2.out⟩
 rw [hE]
 have hV := xV.1 hE
 have HV := Kh hV
 obtain ⟨_, _, h0, h8, _, hwv, _⟩ := patOk hV
 clear hE hV
 go_wp2_with fail
 refine (qQ s 6 _ hss).mono ?_
 rintro e w3 ⟨rfl, rfl⟩
 by_cases hW : zP s 6 = true
 ·obtain ⟨b, off, _, ea, hbB, hbc, hbm, hra⟩ := (H.out.kept HG2.out (by simp)).some_ (by rw [zU]; exact h0)
  rw [zU] at ea hbc
  simp only [Value.slice.injEq] at ea
  obtain ⟨rfl, _, rfl⟩ := ea
  have HM := Kh (rmatch_any w2 b off cap bs s hra hbc hbm h0 (fun i hi => by
   have := hwv i hi
   simp [zP] at this
   omega) (by simp [zP] at hW; omega))
  have HPM : Hid (zX bs s = xC (bs.map (·.data.toList)) s.data.toList) := Kh (by
   rw [zX, HV.out, hW]; simp)
  rw [hW]
  clear hra hwv
  go_wp2_with fail
  refine HM.out.mono ?_
  rintro e w3 ⟨rfl, hg3⟩
  have HG3 := Kh (zA HG2.out hg3 (by simp))
  clear hg3
  go_wp2
  go_ret
  exact ⟨zT HPM.out.symm, HG3.out⟩
 ·have hW' : zP s 6 = false := by simpa using hW
  have hM : Hid (zX bs s = false) := Kh (by simp [zX, hW'])
  rw [hW']
  clear hW hW' hwv
  go_wp2
  go_ret
  exact ⟨zT hM.out.symm, HG2.out⟩
def mtsW (ps : List (List ByteArray)) (s : ByteArray) : List Bool := ps.map fun p => zX p s
theorem lI (ps : List (List ByteArray)) (s : ByteArray) : (mtsW ps s).length = ps.length := by simp [mtsW]
theorem mtsW_take {ps : List (List ByteArray)} {s : ByteArray} {k : Nat} (hk : k < ps.length) : mtsW (ps.take (k + 1)) s = mtsW (ps.take k) s ++ [zX (ps.getD k []) s] := by
 rw [List.take_succ_eq_append_getElem hk, mtsW, List.map_append, zF hk]; rfl
theorem mtsW_get {ps : List (List ByteArray)} {s : ByteArray} {p : Nat} (hp : p < ps.length) : (mtsW ps s).getD p false = zX (ps.getD p []) s := by
 rw [zF (by rw [lI]; exact hp), zF hp]; simp [mtsW]
set_option maxRecDepth 100000 in
set_option maxHeartbeats 800000 in
theorem rmatched_any (B : Nat) (w : World) (v : Value) (ps : List (List ByteArray)) (s : ByteArray) (hB : B ≤ w.heap.size) (h : PatsIn B w v ps) (hl : ps.length ≤ 4096) (hs : s.size ≤ maxLen) :
  Calls Try.prog 24 #[v, .string s] w fun e w' => ∃ sa sc, e = .returned (.slice sa ps.length sc) ∧ w'.ownsRow w.heap.size 4 1 (.slice sa ps.length sc) ps.length (bls (mtsW ps s)) ∧ w.grownBy w' none := by
 obtain ⟨a, c, rfl⟩ := h.shape
 obtain ⟨n, hn⟩ : ∃ n, n = ps.length := ⟨_, rfl⟩
 have HN := Kh hn; have H := Kh h
 rw [← hn] at hl H ⊢
 clear h hn
 go_enter Try.func24, Try.ntmps24
 go_wp2
 go_loopg [5, 7, 10] n (fun gh v5 s7 i wr => ∃ (k : Nat) (sa : Option Addr) (sc : Nat), gh + k = n ∧ i = .int .i64 k ∧ v5 = .slice sa k sc ∧ wr.ownsRow w.heap.size 4 1 (.slice sa k sc) k (bls (mtsW (ps.take k) s)) ∧ w.grownBy wr none)
 case atStart => exact ⟨0, none, 0, rfl, rfl, rfl, World.ownsRow_nil _ _ _ _, zK _ _⟩
 case round =>
  obtain ⟨k, sa, sc, hgh, rfl, rfl, hown, hg⟩ := hrel
  have HGH := Kh hgh; have HG := Kh hg; have HO := Kh hown
  have hz := hg.size
  clear hgh hown
  by_cases hk : k < n
  ·have hk' : (k : Int) < n := by omega
   obtain ⟨b, off, cap, e, hbB, hb2, hb3, hall⟩ := (H.out.kept hg (by simp)).at_ (by rw [← HN.out]; omega)
   rw [← HN.out] at e hb2 hall
   simp only [Value.slice.injEq, true_and] at e
   obtain ⟨rfl, rfl⟩ := e
   obtain ⟨ea, ec, c1, hrow, hsz⟩ := hall k hk
   have HST : Hid (mtsW (ps.take (k + 1)) s = mtsW (ps.take k) s ++ [zX (ps.getD k []) s]) := Kh (mtsW_take (by rw [← HN.out]; exact hk))
   obtain ⟨q, hq⟩ : ∃ q, q = ps.getD k [] := ⟨_, rfl⟩
   rw [← hq] at c1 hrow hsz HST
   have hmx : c ≤ 9223372036854775807 := by unfold maxLen at hb3; omega
   have HM : Hid (∀ W : World, wr.grownBy W none → Calls Try.prog 65 #[.agg #[.slice ea q.length ec], .string s] W fun e w' => e = .returned (.bool (zX q s)) ∧ W.grownBy w' none) := Kh (fun W hW => rMatch_any B W _ q s (hrow.kept hW (by simp)) hsz hs)
   obtain ⟨ql, hql⟩ : ∃ n, n = q.length := ⟨_, rfl⟩
   obtain ⟨mm, hmm⟩ : ∃ m, m = zX q s := ⟨_, rfl⟩
   rw [← hql] at c1 HM
   rw [← hmm] at HM HST
   clear hall hrow hsz hq hql hmm hg
   go_wp2_with fail
   refine (HM.out _ (World.grownBy_alloc wr _ none)).mono ?_
   rintro e w1 ⟨rfl, hg1⟩
   have hg01 := zA (World.grownBy_alloc wr (.cells #[.slice ea ql ec] 28) none) hg1 (by simp)
   have HG1 := Kh hg01
   have HO1 := Kh (zQ HO.out hg01)
   have hz1 := hg01.size
   clear hg1 hg01 HM c1
   go_wp2_with (first | (at_builtin; refine app1 rfl _ _ _ rfl lU w.heap.size (.slice sa k sc) k _ rfl HO1.out (.bool mm) rfl rfl ?c1 ?c2 ?c3 ?_) | fail)
   case c1 => unfold maxLen; omega
   case c2 => omega
   case c3 => omega
   intro sa' sc' w2 hown2 hg2 hlt2
   have HO2 : Hid (w2.ownsRow w.heap.size 4 1 (.slice sa' (k + 1) sc') (k + 1) (bls (mtsW (ps.take (k + 1)) s))) := Kh (by rw [HST.out]; simpa [bls] using hown2)
   have HG2 : Hid (w.grownBy w2 none) := Kh (zA (zA HG.out HG1.out (by simp)) hg2 (fun x e => (HO1.out.lt x e).1))
   clear hown2 hg2
   go_wp2
   go_roundg (n - (k + 1))
   case measure => have := HGH.out; omega
   case rel => exact ⟨k + 1, sa', sc', by have := HGH.out; omega, by go_num, rfl, HO2.out, HG2.out⟩
  ·have hkn : k = n := by have := HGH.out; omega
   have HE : Hid (ps.take k = ps) := Kh (List.take_of_length_le (by rw [← HN.out]; omega))
   rw [HE.out] at HO
   have hk' : ¬ (k : Int) < n := by omega
   subst hkn
   clear hg
   go_wp2
   go_ret
   exact ⟨sa, sc, rfl, HO.out, HG.out⟩
set_option maxRecDepth 100000 in
set_option maxHeartbeats 800000 in
theorem rdecide_any (B : Nat) (w : World) (v : Value) (g : DiaV) (mv : Value) (ms : List Bool) (h : rB B w v g) (hc : xH g.pats.length g.chos g.chos.length) (h0 : 0 ≤ g.root) (h1 : g.root ≤ 1 + (g.chos.length : Int)) (hl : g.pats.length ≤ ms.length) (hm : Row B w mv (bls ms)) :
  Calls Try.prog 44 #[v, mv] w fun e w' => e = .returned (.bool (decG g.chos (fun p => ms.getD p false) g.root)) ∧ w.grownBy w' none := by
 obtain ⟨pv, cv, rfl, hp, hcs⟩ := h
 obtain ⟨ca, cc, rfl⟩ := hcs.shape
 have hcl := hcs.len_le
 obtain ⟨ma, mc, rfl⟩ := hm.shape
 have hml := hm.len_le
 unfold maxLen at hcl hml
 obtain ⟨ps, cs, root⟩ := g
 simp only at hp hc hcs hcl h0 h1 hl ⊢
 rw [yN] at hml
 obtain ⟨r0, rfl⟩ : ∃ n : Nat, root = (n : Int) := ⟨root.toNat, by omega⟩
 obtain ⟨nc, hnc⟩ : ∃ n, n = cs.length := ⟨_, rfl⟩
 obtain ⟨nm, hnm⟩ : ∃ n, n = ms.length := ⟨_, rfl⟩
 rw [← hnc] at hcs hcl h1 ⊢
 rw [yN, ← hnm] at hm ⊢
 rw [← hnm] at hl hml
 have hg1 := World.grownBy_alloc w (.cells #[pv, .slice ca nc cc, .int .i64 (r0 : Int)] 25) none
 have hb1 := heap_alloc_new w (.cells #[pv, .slice ca nc cc, .int .i64 (r0 : Int)] 25)
 obtain ⟨wA, hWA⟩ : ∃ w1, w1 = w.alloc (.cells #[pv, .slice ca nc cc, .int .i64 (r0 : Int)] 25) := ⟨_, rfl⟩
 obtain ⟨P, hP⟩ : ∃ P, P = w.heap.size := ⟨_, rfl⟩
 rw [← hWA] at hg1 hb1
 rw [← hP] at hb1
 have hc1 := hcs.kept hg1 (by simp)
 obtain ⟨p0, p1, p2⟩ := zL hb1
 have HNC := Kh hnc; have HNM := Kh hnm
 have HCS := Kh hc1; have HB1 := Kh hb1; have HOK := Kh hc
 have HWA := Kh hWA; have HPE := Kh hP; have HGA := Kh hg1
 have HM := Kh (hm.kept hg1 (by simp)); have HR0 := Kh h1
 obtain ⟨m, hm'⟩ : ∃ m : Nat → Bool, m = fun p => ms.getD p false := ⟨_, rfl⟩
 have HMF : Hid (∀ p, m p = ms.getD p false) := Kh (fun p => by rw [hm'])
 rw [← hm']
 obtain ⟨ans, hans⟩ : ∃ b, b = decG cs m (r0 : Int) := ⟨_, rfl⟩
 rw [← hans]
 have HANS := Kh hans
 clear hp hcs hc1 hg1 hb1 hWA hP hnc hc h1 h0 hans hnm hm hm'
 go_enter Try.func44, Try.ntmps44
 go_upto_region 1 with fail
 rw [← HWA.out, ← HPE.out]
 go_wp2
 clear p0 p1 p2
 go_loopg [5, 6] r0 (fun gh r s6 wr => ∃ q : Nat, gh = q ∧ r = .int .i64 q ∧ q ≤ 1 + nc ∧ decG cs m q = ans ∧ wA.grownBy wr none)
 case atStart => exact ⟨r0, rfl, rfl, by have := HR0.out; omega, HANS.out.symm, zK _ _⟩
 case round =>
  obtain ⟨q, hgq, rfl, hq1, hdec, hg⟩ := hrel
  have HGQ := Kh hgq
  clear hgq
  have HG := Kh hg; have HDEC := Kh hdec
  clear hdec
  by_cases hq : 2 ≤ q
  ·have hq' : (2 : Int) ≤ q := by omega
   obtain ⟨i, rfl⟩ : ∃ i, q = i + 2 := ⟨q - 2, by omega⟩
   have hi : i < nc := by omega
   have hcsr := HCS.out.kept hg (by simp)
   obtain ⟨b, off, cap, e, hbB, hb2, hb3, hch⟩ := hcsr.at_ (by rw [← HNC.out]; omega)
   rw [← HNC.out] at e hb2
   simp only [Value.slice.injEq, true_and] at e
   obtain ⟨rfl, rfl⟩ := e
   have hmx : cc ≤ 9223372036854775807 := by unfold maxLen at hb3; omega
   have hic : i < cs.length := by rw [← HNC.out]; exact hi
   have c1 := hch.p i hic
   have c2 := hch.y i hic
   have c3 := hch.n i hic
   have hst := pZ (m := m) HOK.out (r := ((i + 2 : Nat) : Int)) (by omega) (by omega)
   have e0 : ((i + 2 : Nat) : Int).toNat - 2 = i := by omega
   rw [e0] at hst
   have hcf := uZ (HOK.out i hic)
   obtain ⟨c, hcc⟩ : ∃ c, c = cs.getD i default := ⟨_, rfl⟩
   rw [← hcc] at c1 c2 c3 hst hcf
   clear hcsr hch hic hcc
   obtain ⟨x, y, n⟩ := c
   simp only at c1 c2 c3 hst hcf
   obtain ⟨xn, rfl⟩ : ∃ k : Nat, x = (k : Int) := ⟨x.toNat, by omega⟩
   obtain ⟨yn, rfl⟩ : ∃ k : Nat, y = (k : Int) := ⟨y.toNat, by omega⟩
   obtain ⟨nn, rfl⟩ : ∃ k : Nat, n = (k : Int) := ⟨n.toNat, by omega⟩
   rw [Int.toNat_natCast] at hst
   have hxn : xn < nm := by omega
   have hxn' : (xn : Int) < nm := by omega
   have hyn : yn < i + 2 := by omega
   have hnn : nn < i + 2 := by omega
   have HST := Kh hst
   obtain ⟨kb, ko, kc, e, _, hm1, hm2, hmr⟩ := (HM.out.kept hg (by simp)).some_ (by rw [yN, ← HNM.out]; omega)
   rw [yN, ← HNM.out] at e hm1
   simp only [Value.slice.injEq, true_and] at e
   obtain ⟨rfl, rfl⟩ := e
   have hmm : mc ≤ 9223372036854775807 := by unfold maxLen at hm2; omega
   have cm : wr.cell? ⟨kb, ko + xn, none⟩ = some (.bool (m xn)) := by
    have := hmr.map (f := Value.bool) (xs := ms) xn (by rw [← HNM.out]; exact hxn)
    rw [this, HMF.out, zF (by rw [← HNM.out]; exact hxn)]
   obtain ⟨b, hb⟩ : ∃ b, b = m xn := ⟨_, rfl⟩
   rw [← hb] at HST cm
   obtain ⟨p0, p1, p2⟩ := zL (zB HB1.out hg (by simp))
   have hb2 := heap_alloc_new wr (.cells #[.int .i64 (xn : Int), .int .i64 (yn : Int), .int .i64 (nn : Int)] 45)
   have hg2 := World.grownBy_alloc wr (.cells #[.int .i64 (xn : Int), .int .i64 (yn : Int), .int .i64 (nn : Int)] 45) none
   obtain ⟨w2, hw2⟩ : ∃ w2, w2 = wr.alloc (.cells #[.int .i64 (xn : Int), .int .i64 (yn : Int), .int .i64 (nn : Int)] 45) := ⟨_, rfl⟩
   obtain ⟨R, hR⟩ : ∃ R, R = wr.heap.size := ⟨_, rfl⟩
   rw [← hw2] at hb2 hg2
   rw [← hR] at hb2
   have cm2 := xA cm hg2
   have HW2 := Kh hw2; have HRE := Kh hR; have HG2 := Kh hg2
   obtain ⟨r0, r1, r2⟩ := zL hb2
   have e2 : IntKind.i64.wrap ((i + 2 : Nat) - 2 : Int) = (i : Int) := by rw [show ((i + 2 : Nat) - 2 : Int) = i by omega]; exact wU (by omega)
   have e3 : ((i + 2 : Nat) - 2 : Int) = (i : Int) := by omega
   have hi' : (i : Int) < nc := by omega
   clear hb hw2 hR hb2 hg2 hg hst hcf hq1 hmr cm
   go_upto_region 4 with fail
   rw [← HW2.out, ← HRE.out]
   clear c1 c2 c3 p0 p1 p2
   cases b with
   | true =>
    go_wp2
    go_roundg yn
    case measure => have := HGQ.out; omega
    case rel => exact ⟨yn, rfl, rfl, by omega, by rw [← HDEC.out]; exact HST.out.symm, zA HG.out HG2.out (by simp)⟩
   | false =>
    go_wp2
    go_roundg nn
    case measure => have := HGQ.out; omega
    case rel => exact ⟨nn, rfl, rfl, by omega, by rw [← HDEC.out]; exact HST.out.symm, zA HG.out HG2.out (by simp)⟩
  ·have hq' : ¬ (2 : Int) ≤ q := by omega
   have HA : Hid (decide ((q : Int) = 1) = ans) := Kh (by rw [← HDEC.out, decG_low _ _ (by omega)])
   clear hg
   go_wp2
   go_ret
   exact ⟨zT (by rw [← HA.out]; first | rfl | simp | decide), zA HGA.out HG.out (by simp)⟩
theorem diaH_no {g : DiaV} {s : ByteArray} (h : diaE g 6 ≠ 0) : diaH g s = false := by
 unfold diaH; rw [show decide (diaE g 6 = 0) = false by rw [decide_eq_false_iff_not]; exact h]; rfl
theorem diaH_word {g : DiaV} {s : ByteArray} (h : zP s 6 = false) : diaH g s = false := by
 unfold diaH; rw [h]; simp
theorem diaH_yes {g : DiaV} {s : ByteArray} (h : diaE g 6 = 0) (hw : zP s 6 = true) : diaH g s = decG g.chos (fun p => (mtsW g.pats s).getD p false) g.root := by
 obtain ⟨_, _, _, _, _, h6, _, h8⟩ := lV h
 unfold diaH
 rw [show decide (diaE g 6 = 0) = true by rw [decide_eq_true_eq]; exact h, hw]
 simp only [Bool.true_and]
 unfold decG
 have key : ∀ (f : Nat) (r : Int), r ≤ 1 + (g.chos.length : Int) → decF g.chos (fun p => zX (g.pats.getD p []) s) f r = decF g.chos (fun p => (mtsW g.pats s).getD p false) f r := by
  intro f
  induction f with
  | zero => exact fun r _ => rfl
  | succ f ih =>
   intro r hr
   rw [decF, decF]
   split
   ·rfl
   ·rename_i h2
    have hc := uZ (h6 (r.toNat - 2) (by omega))
    have e : zX (g.pats.getD (g.chos.getD (r.toNat - 2) default).p.toNat []) s = (mtsW g.pats s).getD (g.chos.getD (r.toNat - 2) default).p.toNat false := (mtsW_get (by omega)).symm
    rw [e]
    split
    ·exact ih _ (by omega)
    ·exact ih _ (by omega)
 exact key _ _ h8
set_option maxRecDepth 100000 in
set_option maxHeartbeats 800000 in
theorem rholds34_any (B : Nat) (w : World) (v : Value) (g : DiaV) (s : ByteArray) (hB : B ≤ w.heap.size) (h : rB B w v g) (hs : s.size ≤ maxLen) :
  Calls Try.prog 12 #[v, .string s] w fun e w' => e = .returned (.bool (diaH g s)) ∧ w.grownBy w' none := by
 obtain ⟨pv, cv, rfl, hp, hc⟩ := h
 obtain ⟨ps, cs, root⟩ := g
 simp only at hp hc ⊢
 have hg1 := World.grownBy_alloc w (.cells #[pv, cv, .int .i64 root] 25) none
 have hb1 := heap_alloc_new w (.cells #[pv, cv, .int .i64 root] 25)
 obtain ⟨wA, hWA⟩ : ∃ w1, w1 = w.alloc (.cells #[pv, cv, .int .i64 root] 25) := ⟨_, rfl⟩
 obtain ⟨P, hP⟩ : ∃ P, P = w.heap.size := ⟨_, rfl⟩
 rw [← hWA] at hg1 hb1
 rw [← hP] at hb1
 have HWA := Kh hWA; have HPE := Kh hP; have HGA := Kh hg1
 have HBP := Kh hb1
 have HP := Kh (hp.kept hg1 (by simp)); have HC := Kh (hc.kept hg1 (by simp))
 have hzA := hg1.size
 have HV : Hid (∀ W : World, wA.grownBy W none → Calls Try.prog 10 #[.agg #[pv, cv, .int .i64 root], .int .i64 6] W fun e w' => e = .returned (.int .i64 (diaE ⟨ps, cs, root⟩ 6)) ∧ wA.grownBy w' none) := Kh (fun W hW =>
  (oY B W _ ⟨ps, cs, root⟩ 6 (by have := hW.size; omega) ⟨pv, cv, rfl, HP.out.kept hW (by simp), HC.out.kept hW (by simp)⟩).mono fun e w' ⟨he, hg⟩ => ⟨he, zE hW hg⟩)
 have HWV : Hid (∀ W : World, wA.grownBy W none → Calls Try.prog 43 #[.string s, .int .i64 6] W fun e w' => e = .returned (.bool (zP s 6)) ∧ wA.grownBy w' none) := Kh (fun W hW => (qQ s 6 W hs).mono fun e w' ⟨he, hg⟩ => ⟨he, by rw [← hg]; exact hW⟩)
 have HCL : Hid (∀ W : World, wA.grownBy W none → W.cell? ⟨P, 0, none⟩ = some pv ∧ W.cell? ⟨P, 1, none⟩ = some cv ∧ W.cell? ⟨P, 2, none⟩ = some (.int .i64 root)) := Kh (fun W hW => zL (zB HBP.out hW (by simp)))
 obtain ⟨p0, p1, p2⟩ := zL hb1
 have GA : wA.grownBy wA.drew none := zM _ _
 clear hb1 hg1 hWA hP hp hc
 by_cases hE : diaE ⟨ps, cs, root⟩ 6 = 0
 case neg =>
  have HR := Kh (diaH_no (s := s) hE)
  obtain ⟨E, hEE⟩ : ∃ E, E = diaE ⟨ps, cs, root⟩ 6 := ⟨_, rfl⟩
  rw [← hEE] at HV hE
  have e1 : (E == 0) = false := by rw [beq_eq_false_iff_ne]; exact hE
  clear hEE
  go_enter Try.func12, Try.ntmps12
  go_upto_region 1 with fail
  rw [← HWA.out, ← HPE.out]
  first | go_region_law (first | (go_simp; go_at_call 10; (with_reducible refine (HV.out _ (by first | assumption | exact zK _ _)).mono ?_); rintro e w7 ⟨rfl, hG7⟩) | (go_simp; go_at_call 43; (with_reducible refine (HWV.out _ (by assumption)).mono ?_); rintro e w8 ⟨rfl, hG8⟩; have hG7 := hG8) | fail) | fail
  all_goals
   go_wp2
   go_ret
   exact ⟨zT HR.out.symm, zA HGA.out (by assumption) (by simp)⟩
 obtain ⟨vb, hvb⟩ : ∃ b, b = zP s 6 := ⟨_, rfl⟩
 rw [hE] at HV
 rw [← hvb] at HWV
 cases vb with
 | false =>
  have HR := Kh (diaH_word (g := ⟨ps, cs, root⟩) hvb.symm)
  clear hvb hE
  go_enter Try.func12, Try.ntmps12
  go_upto_region 1 with fail
  rw [← HWA.out, ← HPE.out]
  first | go_region_law (first | (go_simp; go_at_call 10; (with_reducible refine (HV.out _ (by first | assumption | exact zK _ _)).mono ?_); rintro e w7 ⟨rfl, hG7⟩) | (go_simp; go_at_call 43; (with_reducible refine (HWV.out _ (by assumption)).mono ?_); rintro e w8 ⟨rfl, hG8⟩; have hG7 := hG8) | fail) | fail
  all_goals
   go_wp2
   go_ret
   exact ⟨zT HR.out.symm, zA HGA.out (by assumption) (by simp)⟩
 | true =>
  have HR := Kh (diaH_yes (g := ⟨ps, cs, root⟩) hE hvb.symm)
  obtain ⟨_, _, h3, _, _, h6, h7, h8⟩ := lV hE
  simp only at h3 h6 h7 h8
  obtain ⟨n, hn⟩ : ∃ n, n = ps.length := ⟨_, rfl⟩
  have HM : Hid (∀ W : World, wA.grownBy W none → Calls Try.prog 24 #[pv, .string s] W fun e w' => ∃ sa sc, e = .returned (.slice sa n sc) ∧ Row w'.heap.size w' (.slice sa n sc) (bls (mtsW ps s)) ∧ wA.grownBy w' none) := Kh (fun W hW => by
   rw [hn]
   exact (rmatched_any B W pv ps s (by have := hW.size; omega) (HP.out.kept hW (by simp)) (by omega) hs).mono fun e w' ⟨sa, sc, he, ho, hg⟩ => ⟨sa, sc, he, Row.of_owns ho, zE hW hg⟩)
  have HDE : Hid (∀ (W : World) (sa : Option Addr) (sc : Nat), wA.grownBy W none → Row W.heap.size W (.slice sa n sc) (bls (mtsW ps s)) → Calls Try.prog 44 #[.agg #[pv, cv, .int .i64 root], .slice sa n sc] W fun e w' => e = .returned (.bool (decG cs (fun p => (mtsW ps s).getD p false) root)) ∧ wA.grownBy w' none) := Kh (fun W sa sc hW hr =>
   (rdecide_any W.heap.size W _ ⟨ps, cs, root⟩ _ (mtsW ps s) (rB.mono (B := B) ⟨pv, cv, rfl, HP.out.kept hW (by simp), HC.out.kept hW (by simp)⟩ (by have := hW.size; omega)) h6 h7 h8 (by rw [lI]; exact Nat.le_refl _) hr).mono fun e w' ⟨he, hg⟩ => ⟨he, zE hW hg⟩)
  obtain ⟨ans, hans⟩ : ∃ b, b = decG cs (fun p => (mtsW ps s).getD p false) root := ⟨_, rfl⟩
  rw [← hans] at HDE
  have HR2 : Hid (diaH ⟨ps, cs, root⟩ s = ans) := Kh (by rw [HR.out, hans])
  clear hvb hE hans HR h3 h6 h7 h8 hn
  go_enter Try.func12, Try.ntmps12
  go_upto_region 1 with fail
  rw [← HWA.out, ← HPE.out]
  go_region_held3 (fun w' => w'.cell? ⟨P, 0, none⟩ = some pv ∧ w'.cell? ⟨P, 1, none⟩ = some cv ∧ w'.cell? ⟨P, 2, none⟩ = some (.int .i64 root))
   (first | go_keep | exact HCL.out _ (by assumption) | fail)
   (first | (go_at_call 10; (with_reducible refine (HV.out _ (by assumption)).mono ?_); rintro e w7 ⟨rfl, hG7⟩) | (go_at_call 43; (with_reducible refine (HWV.out _ (by assumption)).mono ?_); rintro e w8 ⟨rfl, hG8⟩) | (go_at_call 24; (with_reducible refine (HM.out _ (by assumption)).mono ?_); rintro e w9 ⟨sa9, sc9, rfl, hr9, hG9⟩; have HR9 := Kh hr9; clear hr9) | (go_at_call 44; (with_reducible refine (HDE.out _ _ _ (by assumption) HR9.out).mono ?_); rintro e w10 ⟨rfl, hG10⟩) | fail)
  all_goals
   go_wp2
   go_ret
   exact ⟨zT HR2.out.symm, zA HGA.out (by assumption) (by simp)⟩
end Go.Proofs.Ytjfdomfendbhfaa
namespace Go.Proofs.Ytjfdomfendbhfaa
open Go.RowKit Go.Maps
set_option maxRecDepth 100000 in
set_option maxHeartbeats 1600000 in
theorem craw_walk (B : Nat) (w : World) (pv cv : Value) (g : DiaV) (letters : Int) (s : ByteArray) (hB : B ≤ w.heap.size) (hp : PatsIn B w pv g.pats) (hc : ChosIn B w cv g.chos) (hs : s.size ≤ maxLen) (hL : tA w) :
  Calls Try.prog 3 #[.agg #[pv, cv, .int .i64 g.root], .int .i64 letters, .string s] w fun e w' => e = .returned (.bool true) ∧ w.grownBy w' none := by
 obtain ⟨ps, cs, root⟩ := g
 simp only at hp hc ⊢
 obtain ⟨ap, cp, rfl⟩ := hp.shape
 obtain ⟨ac, cc, rfl⟩ := hc.shape
 have hpl := hp.len_le
 have hcl := hc.len_le
 obtain ⟨n, hn⟩ : ∃ n, n = ps.length := ⟨_, rfl⟩
 obtain ⟨m, hm⟩ : ∃ n, n = cs.length := ⟨_, rfl⟩
 have HP := Kh hp; have HC := Kh hc; have HN := Kh hn; have HM := Kh hm; have HL := Kh hL
 rw [← hn] at hpl HP ⊢
 rw [← hm] at hcl HC ⊢
 obtain ⟨wA, hWA⟩ : ∃ wA, wA = w.alloc (.cells #[.slice ap n cp, .slice ac m cc, .int .i64 root] 25) := ⟨_, rfl⟩
 have hgA := World.grownBy_alloc w (.cells #[.slice ap n cp, .slice ac m cc, .int .i64 root] 25) none
 have hbA := heap_alloc_new w (.cells #[.slice ap n cp, .slice ac m cc, .int .i64 root] 25)
 obtain ⟨P, hP⟩ : ∃ P, P = w.heap.size := ⟨_, rfl⟩
 rw [← hWA] at hgA hbA
 rw [← hP] at hbA
 obtain ⟨p0, p1, p2⟩ := zL hbA
 have HWA := Kh hWA; have HPE := Kh hP; have HGA := Kh hgA; have HBA := Kh hbA
 have hsm : s.size ≤ 9223372036854775807 := by unfold maxLen at hs; omega
 unfold maxLen at hpl hcl
 have HS := Kh hs
 clear hp hc hn hm hL hWA hgA hbA hP hs
 go_enter Try.func3, Try.ntmps3
 go_upto_region 1 with fail
 rw [← HWA.out, ← HPE.out]
 by_cases h20 : 20 < n
 ·have h20' : (20 : Int) < n := by omega
  go_wp2
  go_ret
  exact ⟨rfl, HGA.out⟩
 have h20' : ¬ (20 : Int) < n := by omega
 by_cases h40 : 40 < m
 ·have h40' : (40 : Int) < m := by omega
  go_wp2
  go_ret
  exact ⟨rfl, HGA.out⟩
 have h40' : ¬ (40 : Int) < m := by omega
 by_cases h60 : 60 < s.size
 ·have h60' : (60 : Int) < s.size := by omega
  go_wp2
  go_ret
  exact ⟨rfl, HGA.out⟩
 have h60' : ¬ (60 : Int) < s.size := by omega
 go_wp2
 clear p0 p1 p2
 go_loopg [27] n (fun gh v27 wr => ∃ k : Nat, gh + k = n ∧ v27 = .int .i64 k ∧ wA.grownBy wr none)
 case atStart => exact ⟨0, rfl, rfl, zK _ _⟩
 case round =>
  obtain ⟨k, hgk, rfl, hg⟩ := hrel
  have HGK := Kh hgk; have HG := Kh hg
  have HGW := Kh (zA HGA.out hg (by simp))
  clear hgk
  by_cases hk : k < n
  ·have hk' : (k : Int) < n := by omega
   obtain ⟨b, off, cap, e, hbB, hc1, hc2, hall⟩ := (HP.out.kept HGW.out (by simp)).at_ (by rw [← HN.out]; omega)
   rw [← HN.out] at e hc1 hall
   simp only [Value.slice.injEq, true_and] at e
   obtain ⟨rfl, rfl⟩ := e
   have hmx : cp ≤ 9223372036854775807 := by unfold maxLen at hc2; omega
   obtain ⟨ea, ec, c1, hrow, hsz⟩ := hall k hk
   have hql := hrow.len_le
   rw [zU] at hql
   obtain ⟨ql, hq⟩ : ∃ q, q = (ps.getD k []).length := ⟨_, rfl⟩
   rw [← hq] at c1 hql
   have hql2 : ql ≤ 9223372036854775807 := by unfold maxLen at hql; omega
   clear hall hrow hsz hq hc1 hc2 hg
   by_cases hq20 : 20 < ql
   ·have hq' : (20 : Int) < ql := by omega
    go_wp2
    go_ret
    exact ⟨rfl, zA HGW.out (by first | exact World.grownBy_alloc _ _ none) (by simp)⟩
   ·have hq' : ¬ (20 : Int) < ql := by omega
    go_wp2
    go_roundg (n - (k + 1))
    case measure => have := HGK.out; omega
    case rel => exact ⟨k + 1, by have := HGK.out; omega, by go_num, zA HG.out (World.grownBy_alloc _ _ none) (by simp)⟩
  ·have hk' : ¬ (k : Int) < n := by omega
   obtain ⟨wB, rfl⟩ : ∃ wB : World, wB = wr := ⟨_, rfl⟩
   have HCC : Hid (∀ W : World, wB.grownBy W none → W.cell? ⟨P, 0, none⟩ = some (.slice ap n cp) ∧ W.cell? ⟨P, 1, none⟩ = some (.slice ac m cc) ∧ W.cell? ⟨P, 2, none⟩ = some (.int .i64 root)) := Kh (fun W hW => zL (zB (zB HBA.out HG.out (by simp)) hW (by simp)))
   have HDI : Hid (∀ W : World, wB.grownBy W none → rB B W (.agg #[.slice ap n cp, .slice ac m cc, .int .i64 root]) ⟨ps, cs, root⟩ ∧ B ≤ W.heap.size ∧ tA W) := Kh (fun W hW => by
    have hg := zA HGW.out hW (by simp)
    exact ⟨⟨_, _, rfl, HP.out.kept hg (by simp), HC.out.kept hg (by simp)⟩, Nat.le_trans hB hg.size, HL.out.kept hg (by simp)⟩)
   obtain ⟨E, hE⟩ : ∃ E, E = diaE ⟨ps, cs, root⟩ letters := ⟨_, rfl⟩
   obtain ⟨hh, hhh⟩ : ∃ b, b = diaH ⟨ps, cs, root⟩ s := ⟨_, rfl⟩
   have HV1 : Hid (∀ W : World, wB.grownBy W none → Calls Try.prog 9 #[.agg #[.slice ap n cp, .slice ac m cc, .int .i64 root], .int .i64 letters] W fun e w' => e = .returned (.int .i64 E) ∧ wB.grownBy w' none) := Kh (fun W hW => by
    obtain ⟨h1, h2, _⟩ := HDI.out W hW
    have := (jO B W _ _ letters h2 h1).mono (fun e w' ⟨he, hg'⟩ => (⟨he, zE hW hg'⟩ : _ ∧ wB.grownBy w' none))
    rwa [← hE] at this)
   have HV2 : Hid (∀ W : World, wB.grownBy W none → Calls Try.prog 10 #[.agg #[.slice ap n cp, .slice ac m cc, .int .i64 root], .int .i64 letters] W fun e w' => e = .returned (.int .i64 E) ∧ wB.grownBy w' none) := Kh (fun W hW => by
    obtain ⟨h1, h2, _⟩ := HDI.out W hW
    have := (oY B W _ _ letters h2 h1).mono (fun e w' ⟨he, hg'⟩ => (⟨he, zE hW hg'⟩ : _ ∧ wB.grownBy w' none))
    rwa [← hE] at this)
   have HH1 : Hid (∀ W : World, wB.grownBy W none → Calls Try.prog 11 #[.agg #[.slice ap n cp, .slice ac m cc, .int .i64 root], .string s] W fun e w' => e = .returned (.bool hh) ∧ wB.grownBy w' none) := Kh (fun W hW => by
    obtain ⟨h1, h2, h3⟩ := HDI.out W hW
    have := (jQ B W _ _ s h2 h1 HS.out h3).mono (fun e w' ⟨he, hg'⟩ => (⟨he, zE hW hg'⟩ : _ ∧ wB.grownBy w' none))
    rwa [← hhh] at this)
   have HH2 : Hid (∀ W : World, wB.grownBy W none → Calls Try.prog 12 #[.agg #[.slice ap n cp, .slice ac m cc, .int .i64 root], .string s] W fun e w' => e = .returned (.bool hh) ∧ wB.grownBy w' none) := Kh (fun W hW => by
    obtain ⟨h1, h2, h3⟩ := HDI.out W hW
    have := (rholds34_any B W _ _ s h2 h1 HS.out).mono (fun e w' ⟨he, hg'⟩ => (⟨he, zE hW hg'⟩ : _ ∧ wB.grownBy w' none))
    rwa [← hhh] at this)
   have HKN : Hid (∀ W : World, wB.grownBy W none → Calls Try.prog 13 #[] W fun e w' => e = .returned (.bool true) ∧ wB.grownBy w' none) := Kh (fun W hW => (known34_any W (HDI.out W hW).2.2).mono (fun e w' ⟨he, hg'⟩ => ⟨he, zE hW hg'⟩))
   have hGB : wB.grownBy wB.drew none := zM wB none
   obtain ⟨d0, d1, d2⟩ := HCC.out _ hGB
   clear hE hhh hg
   go_upto_region 9 with fail
   go_region_held3 (fun w' => w'.cell? ⟨P, 0, none⟩ = some (.slice ap n cp) ∧ w'.cell? ⟨P, 1, none⟩ = some (.slice ac m cc) ∧ w'.cell? ⟨P, 2, none⟩ = some (.int .i64 root))
    (first | go_keep | exact HCC.out _ (by assumption) | exact ⟨d0, d1, d2⟩ | fail)
    (first | (go_at_call 9; (with_reducible refine (HV1.out _ (by assumption)).mono ?_); rintro e w7 ⟨rfl, hG7⟩) | (go_at_call 10; (with_reducible refine (HV2.out _ (by assumption)).mono ?_); rintro e w8 ⟨rfl, hG8⟩) | (go_at_call 11; (with_reducible refine (HH1.out _ (by assumption)).mono ?_); rintro e w9 ⟨rfl, hG9⟩) | (go_at_call 12; (with_reducible refine (HH2.out _ (by assumption)).mono ?_); rintro e w10 ⟨rfl, hG10⟩) | (go_at_call 13; (with_reducible refine (HKN.out _ (by assumption)).mono ?_); rintro e w11 ⟨rfl, hG11⟩) | fail)
   all_goals
    go_wp2
    go_ret
    exact ⟨rfl, zA HGW.out (by assumption) (by simp)⟩
end Go.Proofs.Ytjfdomfendbhfaa
namespace Go.Proofs.Ytjfdomfendbhfaa
open Go.RowKit Go.ChangeShapes Go.WideShapes
section
variable {H : Type} {enc : TypeId × Value → H} {w : World} {fuel : Nat} {cs : List Value} {x : DataW H × List MemPlace}
theorem open_txt {t e : TypeId} {base : Nat} {held : Bool} {P : Program} (ht : P.underlying t = some (.slice e)) (he : P.underlying e = some .string) (hc : P.cellsOf e = 1) (h : DataW.trod enc P w base (fun _ => true) held fuel t cs = some x) :
  ∃ (v : Value) (bs : List ByteArray), cs = [v] ∧ Row w.heap.size w v (txtV bs) ∧ ∀ i (hi : i < bs.length), bs[i].size ≤ maxLen := by
 rcases open_strings ht he hc h with ⟨hcs, _⟩ | ⟨a, l, c, ss, hcs, _, hl, hm, hz, _, hcell, hsz⟩
 ·exact ⟨_, [], hcs, .inl ⟨_, _, rfl, rfl⟩, fun i hi => by simp at hi⟩
 ·have hz' : ss.length = c := by simpa using hz
  by_cases h0 : l = 0
  ·subst h0
   exact ⟨_, [], hcs, .inl ⟨_, _, rfl, rfl⟩, fun i hi => by simp at hi⟩
  obtain ⟨b, off, spot⟩ := a
  have hc0 := hcell 0 (by omega)
  have hspot : spot = none := by simpa [Addr.add] using World.cell?_spot hc0
  subst hspot
  have hadd : ∀ i, (⟨b, off, none⟩ : Addr).add i = ⟨b, off + i, none⟩ := fun i => by unfold Addr.add; split <;> simp_all
  have hb : b < w.heap.size := by
   have := World.block_lt_of_cell? w _ hc0
   rw [hadd] at this
   exact this
  have hln : (ss.take l).length = l := by rw [List.length_take]; omega
  refine ⟨_, ss.take l, hcs, .inr ⟨b, off, c, by rw [zU, hln], hb, by rw [zU, hln]; exact hl, hm, hb, fun i hi => ?_⟩, fun i hi => hsz _ (List.mem_of_mem_take (List.getElem_mem hi))⟩
  have hi' : i < l := by rw [zU, hln] at hi; exact hi
  have h1 := hcell i (by omega)
  rw [hadd] at h1
  rw [h1]
  simp [txtV, List.getD, List.getElem?_eq_getElem (show i < ss.length by omega)]
set_option maxRecDepth 100000 in
theorem trod_pat {held : Bool} (h : DataW.trod enc Try.prog w 0 (fun _ => true) held fuel 28 cs = some x) : ∃ (sv : Value) (bs : List ByteArray), cs = [sv] ∧ (Row w.heap.size w sv (txtV bs) ∧ ∀ i (hi : i < bs.length), bs[i].size ≤ maxLen) := by
 obtain ⟨y0, n, _, hl, h0⟩ := trod_struct1 Try.underlying28 h
 have c0 : Try.prog.cellsOf 26 = 1 := by kernel_rfl
 have hl2 : cs.length = 1 := hl.trans (by kernel_rfl)
 match cs, hl2 with
 | [a], _ =>
  simp only [c0] at h0
  simp at h0
  obtain ⟨v, bs, hv, hr, hsz⟩ := open_txt Try.underlying26 Try.underlying9 (by kernel_rfl) h0
  simp at hv
  subst hv
  exact ⟨a, bs, rfl, hr, hsz⟩
end
end Go.Proofs.Ytjfdomfendbhfaa
namespace Go.Proofs.Ytjfdomfendbhfaa
open Go.RowKit Go.ChangeShapes Go.WideShapes Go.Deep
section
variable {H : Type} {enc : TypeId × Value → H} {w : World} {fuel : Nat} {cs : List Value} {x : DataW H × List MemPlace}
set_option maxRecDepth 100000 in
theorem trod_cho {held : Bool} (h : DataW.trod enc Try.prog w 0 (fun _ => true) held fuel 45 cs = some x) : ∃ c : ChoV, cs = [.int .i64 c.p, .int .i64 c.y, .int .i64 c.n] := by
 obtain ⟨xs, n, _, _, hl, hlen, hf⟩ := DataW.trod_struct Try.underlying45 h
 have c0 : Try.prog.cellsOf 3 = 1 := by kernel_rfl
 have hl5 : cs.length = 3 := hl.trans (by kernel_rfl)
 have key : ∀ i, i < 3 → ∃ y, xs[i]? = some y := fun i hi => ⟨xs[i]'(by simp at hlen; omega), List.getElem?_eq_getElem _⟩
 match cs, hl5 with
 | [a, b, c], _ =>
  obtain ⟨y0, e0⟩ := key 0 (by omega)
  obtain ⟨y1, e1⟩ := key 1 (by omega)
  obtain ⟨y2, e2⟩ := key 2 (by omega)
  have f0 := (hf 0 _ rfl).trans e0
  have f1 := (hf 1 _ rfl).trans e1
  have f2 := (hf 2 _ rfl).trans e2
  simp [c0] at f0 f1 f2
  obtain ⟨z0, g0, _⟩ := DataW.trod_int Try.underlying3 f0
  obtain ⟨z1, g1, _⟩ := DataW.trod_int Try.underlying3 f1
  obtain ⟨z2, g2, _⟩ := DataW.trod_int Try.underlying3 f2
  simp at g0 g1 g2
  subst g0 g1 g2
  exact ⟨⟨z0, z1, z2⟩, rfl⟩
set_option maxRecDepth 100000 in
theorem open_chos {held : Bool} (h : DataW.trod enc Try.prog w 0 (fun _ => true) held fuel 23 cs = some x) : ∃ (v : Value) (ss : List ChoV), cs = [v] ∧ ChosIn w.heap.size w v ss := by
 rcases open_slice Try.underlying23 h with ⟨hcs, _⟩ | ⟨a, len, cap, m, n, D, Pl, hcs, _, hl, hm, hmm, _, hall⟩
 ·exact ⟨_, [], hcs, .inl ⟨_, _, rfl, rfl⟩⟩
 ·by_cases h0 : len = 0
  ·subst h0
   exact ⟨_, [], hcs, .inl ⟨_, _, rfl, rfl⟩⟩
  simp only [if_true] at hmm
  subst hmm
  have c5 : Try.prog.cellsOf 45 = 3 := by kernel_rfl
  rw [c5] at hall
  have each : ∀ i, i < m → ∃ st : ChoV, w.cells? 0 (a.add (i * 3)) 3 = some [.int .i64 st.p, .int .i64 st.y, .int .i64 st.n] := fun i hi => by
   obtain ⟨cs', h1, h2⟩ := hall i hi
   obtain ⟨st, rfl⟩ := trod_cho h2
   exact ⟨st, h1⟩
  obtain ⟨S, hS⟩ := choose_lt each
  obtain ⟨b, off, spot⟩ := a
  have hcell : ∀ i, i < m → ∀ c, c < 3 → w.cell? (((⟨b, off, spot⟩ : Addr).add (i * 3)).add c) = ([.int .i64 (S i).p, .int .i64 (S i).y, .int .i64 (S i).n] : List Value)[c]? := fun i hi c hc => (World.cells?_some (hS i hi)).2.2 c hc
  have hc0 : w.cell? ((⟨b, off, spot⟩ : Addr).add 0) = some (.int .i64 (S 0).p) := by simpa [Addr.add] using hcell 0 (by omega) 0 (by omega)
  have hspot : spot = none := by simpa [Addr.add] using World.cell?_spot hc0
  subst hspot
  have hadd : ∀ o i, (⟨b, o, none⟩ : Addr).add i = ⟨b, o + i, none⟩ := fun o i => by unfold Addr.add; split <;> simp_all
  simp only [hadd] at hcell
  have hg : ∀ i, i < len → ((List.range len).map S).getD i default = S i := fun i hi => by
   rw [List.getD_eq_getElem?_getD, List.getElem?_map, List.getElem?_range hi]; rfl
  have hll : ((List.range len).map S).length = len := by simp
  have hb : b < w.heap.size := World.block_lt_of_cell? w _ (by rw [hadd] at hc0; exact hc0)
  refine ⟨_, (List.range len).map S, hcs, .inr ⟨b, off, m, by rw [hll], hb, by rw [hll]; exact hl, hm, hb, fun i hi => ?_, fun i hi => ?_, fun i hi => ?_⟩⟩
  all_goals (rw [hll] at hi; rw [hg i hi])
  ·exact hcell i (by omega) 0 (by omega)
  ·exact hcell i (by omega) 1 (by omega)
  ·exact hcell i (by omega) 2 (by omega)
set_option maxRecDepth 100000 in
theorem open_pats {held : Bool} (h : DataW.trod enc Try.prog w 0 (fun _ => true) held fuel 22 cs = some x) : ∃ (v : Value) (ps : List (List ByteArray)), cs = [v] ∧ PatsIn w.heap.size w v ps := by
 rcases open_slice Try.underlying22 h with ⟨hcs, _⟩ | ⟨a, len, cap, m, n, D, Pl, hcs, _, hl, hm, hmm, _, hall⟩
 ·exact ⟨_, [], hcs, PatsIn.nil _ _⟩
 ·by_cases h0 : len = 0
  ·subst h0
   exact ⟨_, [], hcs, PatsIn.nil _ _⟩
  simp only [if_true] at hmm
  subst hmm
  have c5 : Try.prog.cellsOf 28 = 1 := by kernel_rfl
  rw [c5] at hall
  have each : ∀ i, i < m → ∃ st : Value × List ByteArray, w.cells? 0 (a.add (i * 1)) 1 = some [st.1] ∧ (Row w.heap.size w st.1 (txtV st.2) ∧ ∀ i (hi : i < st.2.length), st.2[i].size ≤ maxLen) := fun i hi => by
   obtain ⟨cs', h1, h2⟩ := hall i hi
   obtain ⟨sv, bs, rfl, h3⟩ := trod_pat h2
   exact ⟨(sv, bs), h1, h3⟩
  obtain ⟨S, hS⟩ := choose_lt each
  obtain ⟨b, off, spot⟩ := a
  have hcell : ∀ i, i < m → w.cell? (((⟨b, off, spot⟩ : Addr).add (i * 1)).add 0) = some (S i).1 := fun i hi => by
   have := (World.cells?_some (hS i hi).1).2.2 0 (by omega)
   simpa using this
  have hc0 : w.cell? ((⟨b, off, spot⟩ : Addr).add 0) = some (S 0).1 := by simpa [Addr.add] using hcell 0 (by omega)
  have hspot : spot = none := by simpa [Addr.add] using World.cell?_spot hc0
  subst hspot
  have hadd : ∀ o i, (⟨b, o, none⟩ : Addr).add i = ⟨b, o + i, none⟩ := fun o i => by unfold Addr.add; split <;> simp_all
  simp only [hadd] at hcell
  have hb : b < w.heap.size := World.block_lt_of_cell? w _ (by rw [hadd] at hc0; exact hc0)
  refine ⟨_, (List.range len).map (fun i => (S i).2), hcs, (List.range len).map (fun i => (S i).1), .inr ⟨b, off, m, by simp, hb, by simpa using hl, hm, hb, fun i hi => ?_⟩, by simp, fun i h1 h2 => ?_⟩
  ·have hi' : i < len := by simpa using hi
   have := hcell i (by omega)
   simp only [Nat.mul_one, Nat.add_zero] at this
   rw [this]; simp
  ·have hi' : i < len := by simpa using h1
   have := (hS i (by omega)).2
   simp only [List.getElem_map, List.getElem_range]
   exact this
set_option maxRecDepth 100000 in
theorem trod_dia {held : Bool} (h : DataW.trod enc Try.prog w 0 (fun _ => true) held fuel 25 cs = some x) : ∃ (pv cv : Value) (g : DiaV), cs = [pv, cv, .int .i64 g.root] ∧ (PatsIn w.heap.size w pv g.pats ∧ ChosIn w.heap.size w cv g.chos) := by
 obtain ⟨xs, n, _, _, hl, hlen, hf⟩ := DataW.trod_struct Try.underlying25 h
 have c0 : Try.prog.cellsOf 22 = 1 := by kernel_rfl
 have c1 : Try.prog.cellsOf 23 = 1 := by kernel_rfl
 have c2 : Try.prog.cellsOf 3 = 1 := by kernel_rfl
 have hl5 : cs.length = 3 := hl.trans (by kernel_rfl)
 have key : ∀ i, i < 3 → ∃ y, xs[i]? = some y := fun i hi => ⟨xs[i]'(by simp at hlen; omega), List.getElem?_eq_getElem _⟩
 match cs, hl5 with
 | [a, b, c], _ =>
  obtain ⟨y0, e0⟩ := key 0 (by omega)
  obtain ⟨y1, e1⟩ := key 1 (by omega)
  obtain ⟨y2, e2⟩ := key 2 (by omega)
  have f0 := (hf 0 _ rfl).trans e0
  have f1 := (hf 1 _ rfl).trans e1
  have f2 := (hf 2 _ rfl).trans e2
  simp [c0, c1, c2] at f0 f1 f2
  obtain ⟨v0, ps, g0, hps⟩ := open_pats f0
  obtain ⟨v1, ch, g1, hch⟩ := open_chos f1
  obtain ⟨z2, g2, _⟩ := DataW.trod_int Try.underlying3 f2
  simp at g0 g1 g2
  subst g0 g1 g2
  exact ⟨_, _, ⟨ps, ch, z2⟩, rfl, hps, hch⟩
end
end Go.Proofs.Ytjfdomfendbhfaa
namespace Go.Proofs.Ytjfdomfendbhfaa
open Go.RowKit
theorem someLen_of_shaped {w : World} (h : w.ShapedOpen Try.prog) : tA w := by
 obtain ⟨m, hm⟩ := Go.Proofs.cell_of_shapedOpen_int (P := Try.prog) (w := w) (g := 0) (t := 3) (zero := #[.int .i64 0]) (k := .i64) h (of_decide_eq_true (by kernel_rfl)) (by kernel_rfl) rfl (by kernel_rfl) (by kernel_rfl) Try.underlying3
 exact ⟨World.block_lt_of_cell? w _ hm, m, hm⟩
end Go.Proofs.Ytjfdomfendbhfaa
