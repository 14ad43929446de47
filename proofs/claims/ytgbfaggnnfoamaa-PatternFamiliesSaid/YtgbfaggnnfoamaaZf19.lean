/- Part 19 of the proof: Comp. -/
import Derived.Test.YtgbfaggnnfoamaaZf18
set_option linter.unusedVariables false
set_option linter.unusedSimpArgs false
namespace Go.Proofs.Ytgbfaggnnfoamaa
open Go.RowKit
def lexZ : List Int → List Int → Bool
 | _, [] => false
 | [], _ :: _ => true
 | a :: x, b :: y => decide (a < b) || (decide (a = b) && lexZ x y)
def lessW (u v : List Int) : Bool := decide (u.length < v.length) || (decide (u.length = v.length) && lexZ u v)
theorem lexZ_total : ∀ u v : List Int, u.length = v.length → u ≠ v → lexZ u v = true ∨ lexZ v u = true
 | [], [], _, h => absurd rfl h
 | [], _ :: _, h, _ => by simp at h
 | _ :: _, [], h, _ => by simp at h
 | a :: x, b :: y, hl, hne => by
  simp only [lexZ, Bool.or_eq_true, Bool.and_eq_true, decide_eq_true_eq]
  rcases Int.lt_trichotomy a b with h | h | h
  ·exact .inl (.inl h)
  ·subst h
   rcases lexZ_total x y (by simpa using hl) (fun e => hne (by rw [e])) with h | h
   ·exact .inl (.inr ⟨rfl, h⟩)
   ·exact .inr (.inr ⟨rfl, h⟩)
  ·exact .inr (.inl h)
theorem lexZ_trans : ∀ u v w : List Int, lexZ u v = true → lexZ v w = true → lexZ u w = true
 | _, [], _, h, _ => by cases ‹List Int› <;> simp [lexZ] at h
 | _, _ :: _, [], _, h => by simp [lexZ] at h
 | [], _ :: _, _ :: _, _, _ => rfl
 | a :: x, b :: y, c :: z, h1, h2 => by
  simp only [lexZ, Bool.or_eq_true, Bool.and_eq_true, decide_eq_true_eq] at h1 h2 ⊢
  rcases h1 with h1 | ⟨rfl, h1⟩
  ·rcases h2 with h2 | ⟨rfl, h2⟩
   ·exact .inl (by omega)
   ·exact .inl h1
  ·rcases h2 with h2 | ⟨rfl, h2⟩
   ·exact .inl h2
   ·exact .inr ⟨rfl, lexZ_trans x y z h1 h2⟩
theorem lexZ_irrefl : ∀ u : List Int, lexZ u u = false
 | [] => rfl
 | a :: x => by simp [lexZ, lexZ_irrefl x]
theorem xN (u : List Int) : lessW u u = false := by simp [lessW, lexZ_irrefl]
theorem lessW_total {u v : List Int} (h : u ≠ v) : lessW u v = true ∨ lessW v u = true := by
 simp only [lessW, Bool.or_eq_true, Bool.and_eq_true, decide_eq_true_eq]
 rcases Nat.lt_trichotomy u.length v.length with h1 | h1 | h1
 ·exact .inl (.inl h1)
 ·rcases lexZ_total u v h1 h with h2 | h2
  ·exact .inl (.inr ⟨h1, h2⟩)
  ·exact .inr (.inr ⟨h1.symm, h2⟩)
 ·exact .inr (.inl h1)
theorem lessW_trans {u v w : List Int} (h1 : lessW u v = true) (h2 : lessW v w = true) : lessW u w = true := by
 simp only [lessW, Bool.or_eq_true, Bool.and_eq_true, decide_eq_true_eq] at h1 h2 ⊢
 rcases h1 with h1 | ⟨e1, h1⟩
 ·rcases h2 with h2 | ⟨e2, h2⟩
  ·exact .inl (by omega)
  ·exact .inl (by omega)
 ·rcases h2 with h2 | ⟨e2, h2⟩
  ·exact .inl (by omega)
  ·exact .inr ⟨by omega, lexZ_trans u v w h1 h2⟩
def zR : List (List Int) → List (List Int) → Bool
 | [], _ => false
 | _ :: _, [] => false
 | a :: p, b :: q => lessW a b || (decide (a = b) && zR p q)
def lessP (p q : List (List Int)) : Bool := decide (p.length < q.length) || (decide (p.length = q.length) && zR p q)
theorem blkLess_total : ∀ p q : List (List Int), p.length = q.length → p ≠ q → zR p q = true ∨ zR q p = true
 | [], [], _, h => absurd rfl h
 | [], _ :: _, h, _ => by simp at h
 | _ :: _, [], h, _ => by simp at h
 | a :: p, b :: q, hl, hne => by
  simp only [zR, Bool.or_eq_true, Bool.and_eq_true, decide_eq_true_eq]
  by_cases e : a = b
  ·subst e
   rcases blkLess_total p q (by simpa using hl) (fun e => hne (by rw [e])) with h | h
   ·exact .inl (.inr ⟨rfl, h⟩)
   ·exact .inr (.inr ⟨rfl, h⟩)
  ·rcases lessW_total e with h | h
   ·exact .inl (.inl h)
   ·exact .inr (.inl h)
theorem blkLess_trans : ∀ p q r : List (List Int), zR p q = true → zR q r = true → zR p r = true
 | [], _, _, h, _ => by simp [zR] at h
 | _ :: _, [], _, h, _ => by simp [zR] at h
 | _ :: _, _ :: _, [], _, h => by simp [zR] at h
 | a :: p, b :: q, c :: r, h1, h2 => by
  simp only [zR, Bool.or_eq_true, Bool.and_eq_true, decide_eq_true_eq] at h1 h2 ⊢
  rcases h1 with h1 | ⟨rfl, h1⟩
  ·rcases h2 with h2 | ⟨rfl, h2⟩
   ·exact .inl (lessW_trans h1 h2)
   ·exact .inl h1
  ·rcases h2 with h2 | ⟨rfl, h2⟩
   ·exact .inl h2
   ·exact .inr ⟨rfl, blkLess_trans p q r h1 h2⟩
theorem blkLess_irrefl : ∀ p : List (List Int), zR p p = false
 | [] => rfl
 | a :: p => by simp [zR, xN, blkLess_irrefl p]
theorem xO (p : List (List Int)) : lessP p p = false := by simp [lessP, blkLess_irrefl]
theorem lessP_total {p q : List (List Int)} (h : p ≠ q) : lessP p q = true ∨ lessP q p = true := by
 simp only [lessP, Bool.or_eq_true, Bool.and_eq_true, decide_eq_true_eq]
 rcases Nat.lt_trichotomy p.length q.length with h1 | h1 | h1
 ·exact .inl (.inl h1)
 ·rcases blkLess_total p q h1 h with h2 | h2
  ·exact .inl (.inr ⟨h1, h2⟩)
  ·exact .inr (.inr ⟨h1.symm, h2⟩)
 ·exact .inr (.inl h1)
theorem lessP_trans {p q r : List (List Int)} (h1 : lessP p q = true) (h2 : lessP q r = true) : lessP p r = true := by
 simp only [lessP, Bool.or_eq_true, Bool.and_eq_true, decide_eq_true_eq] at h1 h2 ⊢
 rcases h1 with h1 | ⟨e1, h1⟩
 ·rcases h2 with h2 | ⟨e2, h2⟩
  ·exact .inl (by omega)
  ·exact .inl (by omega)
 ·rcases h2 with h2 | ⟨e2, h2⟩
  ·exact .inl (by omega)
  ·exact .inr ⟨by omega, blkLess_trans p q r h1 h2⟩
theorem lessP_asymm {p q : List (List Int)} (h : lessP p q = true) : lessP q p = false := by
 cases e : lessP q p with
 | false => rfl
 | true => have := lessP_trans h e; rw [xO] at this; cases this
theorem lessP_ext : ∀ {l m : List (List (List Int))}, l.Pairwise (fun a b => lessP a b = true) → m.Pairwise (fun a b => lessP a b = true) → (∀ a, a ∈ l ↔ a ∈ m) → l = m
 | [], [], _, _, _ => rfl
 | [], b :: m, _, _, h => by have := (h b).2 (by simp); simp at this
 | a :: l, [], _, _, h => by have := (h a).1 (by simp); simp at this
 | a :: l, b :: m, hl, hm, h => by
  have hl' := List.pairwise_cons.1 hl
  have hm' := List.pairwise_cons.1 hm
  have e : a = b := by
   rcases List.mem_cons.1 ((h a).1 (by simp)) with h1 | h1
   ·exact h1
   ·rcases List.mem_cons.1 ((h b).2 (by simp)) with h2 | h2
    ·exact h2.symm
    ·have h3 := hl'.1 b h2
     have h4 := lessP_asymm (hm'.1 a h1)
     rw [h3] at h4; cases h4
  subst e
  congr 1
  refine lessP_ext hl'.2 hm'.2 fun c => ?_
  constructor
  ·intro hc
   have h1 := hl'.1 c hc
   rcases List.mem_cons.1 ((h c).1 (List.mem_cons_of_mem _ hc)) with e | e
   ·rw [e, xO] at h1; cases h1
   ·exact e
  ·intro hc
   have h1 := hm'.1 c hc
   rcases List.mem_cons.1 ((h c).2 (List.mem_cons_of_mem _ hc)) with e | e
   ·rw [e, xO] at h1; cases h1
   ·exact e
def okW (u : List Int) : Prop := ∀ x ∈ u, okNum 6 x
theorem u8_lt {a b : Int} (ha : okNum 6 a) (hb : okNum 6 b) : (UInt8.ofNat a.toNat < UInt8.ofNat b.toNat ↔ a < b) ∧ (UInt8.ofNat a.toNat = UInt8.ofNat b.toNat ↔ a = b) := by
 obtain ⟨a1, a2⟩ := ha
 obtain ⟨b1, b2⟩ := hb
 have e1 : (UInt8.ofNat a.toNat).toNat = a.toNat := by rw [UInt8.toNat_ofNat']; omega
 have e2 : (UInt8.ofNat b.toNat).toNat = b.toNat := by rw [UInt8.toNat_ofNat']; omega
 refine ⟨by rw [UInt8.lt_iff_toNat_lt, e1, e2]; omega, ⟨fun h => ?_, fun h => by rw [h]⟩⟩
 have := congrArg UInt8.toNat h
 rw [e1, e2] at this; omega
theorem bytes_lex : ∀ u v : List Int, okW u → okW v → Op.bytesLess ((u.map fun n => UInt8.ofNat n.toNat)) ((v.map fun n => UInt8.ofNat n.toNat)) = lexZ u v
 | [], [], _, _ => rfl
 | [], _ :: _, _, _ => rfl
 | _ :: _, [], _, _ => rfl
 | a :: x, b :: y, hu, hv => by
  have ih := bytes_lex x y (fun c hc => hu c (by simp [hc])) (fun c hc => hv c (by simp [hc]))
  obtain ⟨h1, h2⟩ := u8_lt (hu a (by simp)) (hv b (by simp))
  simp only [List.map_cons, Op.bytesLess, lexZ]
  rw [ih, decide_eq_decide.2 h1]
  congr 1
  congr 1
  rw [Bool.eq_iff_iff, beq_iff_eq, decide_eq_true_eq]; exact h2
theorem bytes_eq : ∀ u v : List Int, okW u → okW v → ((u.map fun n => UInt8.ofNat n.toNat) = (v.map fun n => UInt8.ofNat n.toNat) ↔ u = v)
 | [], [], _, _ => by simp
 | [], _ :: _, _, _ => by simp
 | _ :: _, [], _, _ => by simp
 | a :: x, b :: y, hu, hv => by
  have ih := bytes_eq x y (fun c hc => hu c (by simp [hc])) (fun c hc => hv c (by simp [hc]))
  obtain ⟨_, h2⟩ := u8_lt (hu a (by simp)) (hv b (by simp))
  simp only [List.map_cons, List.cons.injEq]
  rw [h2, ih]
def cmpI (u v : List Int) : Int := if lessW u v then -1 else if u = v then 0 else 1
set_option maxHeartbeats 800000 in
theorem compare_any (u v : List Int) (w : World) (hu : u.length ≤ 1000) (hv : v.length ≤ 1000) (ou : okW u) (ov : okW v) :
  Calls Try.prog 54 #[.string (strOfNums u), .string (strOfNums v)] w fun e w' => e = .returned (.int .i64 (cmpI u v)) ∧ w = w' := by
 have h1 := strOfNums_size u
 have h2 := strOfNums_size v
 have hb : Op.bytesLess (strOfNums u).toList (strOfNums v).toList = lexZ u v := by rw [ByteArray.toList_eq, ByteArray.toList_eq, strOfNums_data, strOfNums_data]; exact bytes_lex u v ou ov
 have he : ((strOfNums u).toList == (strOfNums v).toList) = decide (u = v) := by
  rw [ByteArray.toList_eq, ByteArray.toList_eq, strOfNums_data, strOfNums_data, Bool.eq_iff_iff, beq_iff_eq, decide_eq_true_eq]; exact bytes_eq u v ou ov
 obtain ⟨lb, hlb⟩ : ∃ lb, lb = lexZ u v := ⟨_, rfl⟩
 obtain ⟨eb, heb⟩ : ∃ eb, eb = decide (u = v) := ⟨_, rfl⟩
 have HC : Hid (cmpI u v = if decide (u.length < v.length) || (decide (u.length = v.length) && lb) then -1 else if eb then 0 else 1) := Kh (by
  rw [cmpI, lessW, hlb, heb]; simp)
 rw [← hlb] at hb
 rw [← heb] at he
 have HEQ : Hid (eb = true → u.length = v.length) := Kh (fun h => by rw [heb, decide_eq_true_eq] at h; rw [h])
 clear hlb heb
 by_cases hlt : u.length < v.length
 ·go_enter Try.func54, Try.ntmps54
  go_wp2
  go_ret
  exact ⟨yO (by rw [HC.out]; simp [hlt]), rfl⟩
 ·by_cases heq : u.length = v.length
  ·cases lb <;> cases eb
   all_goals
    go_enter Try.func54, Try.ntmps54
    go_wp2
    go_ret
    exact ⟨yO (by rw [HC.out]; simp [heq]), rfl⟩
  ·have heb2 : eb = false := by
    cases eb with
    | false => rfl
    | true => exact absurd (HEQ.out rfl) heq
   subst heb2
   go_enter Try.func54, Try.ntmps54
   go_wp2
   go_ret
   exact ⟨yO (by rw [HC.out]; simp [hlt, heq]), rfl⟩
end Go.Proofs.Ytgbfaggnnfoamaa
