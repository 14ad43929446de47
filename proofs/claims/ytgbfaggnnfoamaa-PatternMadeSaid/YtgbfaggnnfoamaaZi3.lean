/- Part 3 of the proof: Byte1, Guard, Inv. -/
import Derived.Test.YtgbfaggnnfoamaaZi2
import Derived.OrdersHeld
set_option linter.unusedVariables false
set_option linter.unusedSimpArgs false
namespace Go.Proofs.Ytgbfaggnnfoamaa
open Go.RowKit
theorem run_byte1 {P : Program} {W : World} {g : Nat} {c : Int} (src e : TypeId) (hs : P.underlying src = some (.slice e)) (he : P.underlying e = some (.int .u8)) (dst : TypeId) (hd : P.underlying dst = some .string)
  (h : W.cell? ⟨g, 0, none⟩ = some (.int .u8 c)) : (convert src dst (.slice (some ⟨g, 0, none⟩) 1 1)).run P W = .ok (.string (strOfNums [c])) W := by
 refine run_convert_bytes_arg W src e hs he g 0 1 1 [c] rfl (fun i hi => ?_) dst hd
 have : i = 0 := by simp at hi; omega
 subst this
 simpa using h
section
variable {P : Program} {md : Region.Mode} {ops : Array Oper} {Q : Exit → Act → World → Prop}
def wN (P : Program) (md : Region.Mode) (ops : Array Oper) (Q : Exit → Act → World → Prop) (G : Array Bool → World → Prop) : Nat → Array Bool → Act → World → Prop
 | 0, listed, a, w => Region.ready md ops listed = [] ∧ Q .normal a w
 | fuel + 1, listed, a, w =>
  (Region.ready md ops listed = [] → Q .normal a w) ∧
  ∀ i ∈ Region.ready md ops listed, wpOp P ops Q i (fun a' w' => G (listed.setIfInBounds i true) w' ∧ wN P md ops Q G fuel (listed.setIfInBounds i true) a' w') a w
variable {G : Array Bool → World → Prop}
theorem lF : ∀ (fuel : Nat) (listed : Array Bool) (a : Act) (w : World), wN P md ops Q G fuel listed a w → wpAny P md ops Q fuel listed a w
 | 0, _, _, _, h => h
 | fuel + 1, _, _, _, h => ⟨h.1, fun i hi => wpOp_mono (fun a' w' h' => lF fuel _ a' w' h'.2) (h.2 i hi)⟩
theorem oW {S : World → Prop} {U : Array Bool → Prop} {i : Nat} {oi : Oper} {v : Value} (hi : ops[i]? = some oi) (hsel : ∀ (j : Nat) (o : Oper) cs b, ops[j]? = some o → o.op ≠ .select cs b)
  (hQ : ∀ c a w, Q (.panic c) (a.put oi.dst v) w → Q (.panic c) a w)
  (hU : ∀ listed j, U listed → i ∈ Region.ready md ops listed → j ∈ Region.ready md ops listed → j ≠ i → U (listed.setIfInBounds j true))
  (hG : ∀ listed w, U listed → G listed w → S w) (hGi : ∀ listed w, U listed → i ∈ Region.ready md ops listed → G listed w → G (listed.setIfInBounds i true) w)
  (hGj : ∀ listed j w, U listed → i ∈ Region.ready md ops listed → j ∈ Region.ready md ops listed → j ≠ i → G ((listed.setIfInBounds i true).setIfInBounds j true) w → G (listed.setIfInBounds j true) w) :
  ∀ (fuel : Nat) (listed : Array Bool) (a : Act) (w : World),
   (∀ j oj, ops[j]? = some oj → j ≠ i → listed.getD j true = false → (∀ e ∈ oj.after, Region.binds md e = true → e.on ≠ i) → oi.apart ops oj = true) →
   i ∈ Region.ready md ops listed → U listed → YieldsIf P ops S oi v a → G listed w →
   wN P md ops Q G fuel (listed.setIfInBounds i true) (a.put oi.dst v) w → wN P md ops Q G (fuel + 1) listed a w := by
 intro fuel
 induction fuel with
 | zero =>
  intro listed a w _ hr hu hy hS H
  refine ⟨fun h => (by rw [h] at hr; cases hr), fun j hj => ?_⟩
  by_cases hji : j = i
  ·subst hji; exact hy.wpOp hi (hG _ _ hu hS) ⟨hGi _ _ hu hr hS, H⟩
  ·have := ready_mono hj hji
   rw [H.1] at this
   cases this
 | succ fuel ih =>
  intro listed a w hfree hr hu hy hS H
  refine ⟨fun h => (by rw [h] at hr; cases hr), fun j hj => ?_⟩
  by_cases hji : j = i
  ·subst hji; exact hy.wpOp hi (hG _ _ hu hS) ⟨hGi _ _ hu hr hS, H⟩
  ·have h1 := H.2 j (ready_mono hj hji)
   obtain ⟨hjun, oj, hoj, hall⟩ := mem_ready.1 hj
   have hnot : ∀ e ∈ oj.after, Region.binds md e = true → e.on ≠ i := fun e he hb heq => by
    have h1 := hall e he hb
    have h0 := (mem_ready.1 hr).1
    rw [heq] at h1
    rcases Nat.lt_or_ge i listed.size with h' | h'
    ·simp [h'] at h0 h1; rw [h0] at h1; cases h1
    ·simp [Array.getElem?_eq_none h'] at h1
   have h2 := wpOp_putIf hoj (hfree j oj hoj hji hjun hnot) (fun cs b => hsel i oi cs b hi) (fun cs b => hsel j oj cs b hoj) hQ hy h1
   have hfree' : ∀ k ok, ops[k]? = some ok → k ≠ i → (listed.setIfInBounds j true).getD k true = false →
     (∀ e ∈ ok.after, Region.binds md e = true → e.on ≠ i) → oi.apart ops ok = true := fun k ok hk hki hun hno => by
    refine hfree k ok hk hki ?_ hno
    by_cases hjk : j = k
    ·subst hjk; exact hjun
    ·rw [Go.getD_set_ne true hjk] at hun; exact hun
   have hu' := hU listed j hu hr hj hji
   refine wpOp_mono (fun a' w' h3 => ?_) h2
   have hGw := hGj listed j w' hu hr hj hji h3.2.1
   refine ⟨hGw, ih (listed.setIfInBounds j true) a' w' hfree' (ready_mono hr (Ne.symm hji)) hu' h3.1 hGw ?_⟩
   rw [Array.setIfInBounds_comm _ _ hji]
   exact h3.2.2
def tY (s : Nat) (A B : World → Prop) (listed : Array Bool) (w : World) : Prop := A w ∧ (listed.getD s true = false → B w)
theorem wH {l : Array Bool} {i : Nat} : (l.setIfInBounds i true).getD i true = true := by
 rcases Nat.lt_or_ge i l.size with h | h
 ·simp [h]
 ·simp [h]
theorem jB {s j : Nat} {A B : World → Prop} {listed : Array Bool} {w : World} (h : tY s A B listed w) : tY s A B (listed.setIfInBounds j true) w := by
 refine ⟨h.1, fun hs => h.2 ?_⟩
 by_cases e : j = s
 ·subst e; rw [wH] at hs; cases hs
 ·rwa [Go.getD_set_ne true e] at hs
theorem nY {s i j : Nat} {A B : World → Prop} {listed : Array Bool} {w : World} (hne : i ≠ s) (h : tY s A B ((listed.setIfInBounds i true).setIfInBounds j true) w) : tY s A B (listed.setIfInBounds j true) w := by
 refine ⟨h.1, fun hs => h.2 ?_⟩
 by_cases e : j = s
 ·subst e; rw [wH] at hs; cases hs
 ·rw [Go.getD_set_ne true e] at hs ⊢
  rwa [Go.getD_set_ne true hne]
variable {s : Nat} {A B : World → Prop}
theorem takeA {i : Nat} {oi : Oper} {v : Value} {fuel : Nat} {listed : Array Bool} {a : Act} {w : World} (hi : ops[i]? = some oi) (hne : (i == s) = false)
  (hs : Region.noSelect ops = true) (hf : Region.free md ops listed i = true) (hr : (Region.ready md ops listed).contains i = true)
  (hQ : ∀ c a w, Q (.panic c) (a.put oi.dst v) w → Q (.panic c) a w) (hy : YieldsIf P ops A oi v a) (hG : tY s A B listed w)
  (h : wN P md ops Q (tY s A B) fuel (listed.setIfInBounds i true) (a.put oi.dst v) w) : wN P md ops Q (tY s A B) (fuel + 1) listed a w :=
 oW (S := A) (U := fun _ => True) hi (Region.noSelect_spec hs) hQ (fun _ _ _ _ _ _ => trivial) (fun _ _ _ h => h.1) (fun _ _ _ _ h => jB h)
  (fun _ _ _ _ _ _ _ h => nY (by simpa using hne) h) fuel listed a w (Region.free_spec hi hf) (by simpa using hr) trivial hy hG h
theorem takeB {i : Nat} {oi : Oper} {v : Value} {fuel : Nat} {listed : Array Bool} {a : Act} {w : World} (hi : ops[i]? = some oi) (hne : (i == s) = false)
  (hw : (match ops[s]? with | some os => os.after.any fun e => Region.binds md e && (e.on == i) | none => false) = true) (hun : listed.getD s true = false)
  (hs : Region.noSelect ops = true) (hf : Region.free md ops listed i = true) (hr : (Region.ready md ops listed).contains i = true)
  (hQ : ∀ c a w, Q (.panic c) (a.put oi.dst v) w → Q (.panic c) a w) (hy : YieldsIf P ops (fun w => A w ∧ B w) oi v a) (hG : tY s A B listed w)
  (h : wN P md ops Q (tY s A B) fuel (listed.setIfInBounds i true) (a.put oi.dst v) w) : wN P md ops Q (tY s A B) (fuel + 1) listed a w := by
 refine oW (S := fun w => A w ∧ B w) (U := fun l => l.getD s true = false) hi (Region.noSelect_spec hs) hQ (fun l j hu hir hj hji => ?_) (fun l w hu h => ⟨h.1, h.2 hu⟩) (fun _ _ _ _ h => jB h)
  (fun _ _ _ _ _ _ _ h => nY (by simpa using hne) h) fuel listed a w (Region.free_spec hi hf) (by simpa using hr) hun hy hG h
 by_cases e : j = s
 ·subst e
  exfalso
  obtain ⟨hjun, oj, hoj, hall⟩ := mem_ready.1 hj
  rw [hoj] at hw
  simp only [Array.any_eq_true, Bool.and_eq_true, beq_iff_eq] at hw
  obtain ⟨k, hk, hb, he⟩ := hw
  have h1 := hall _ (Array.getElem_mem hk) hb
  have h0 := (mem_ready.1 hir).1
  rw [he] at h1
  rcases Nat.lt_or_ge i l.size with h' | h'
  ·simp [h'] at h0 h1; rw [h0] at h1; cases h1
  ·simp [Array.getElem?_eq_none h'] at h1
 ·rw [Go.getD_set_ne true e]; exact hu
theorem doneG {listed : Array Bool} {a : Act} {w : World} (hr : Region.ready md ops listed = []) (h : Q .normal a w) : ∀ fuel, wN P md ops Q G fuel listed a w
 | 0 => ⟨hr, h⟩
 | _ + 1 => ⟨fun _ => h, by rw [hr]; simp⟩
theorem oneG {i : Nat} {o : Oper} {fuel : Nat} {listed : Array Bool} {a : Act} {w : World} (hr : Region.ready md ops listed = [i]) (ho : ops[i]? = some o)
  (h : ∀ K' : Act → World → Prop, Shut (∀ a w, G (listed.setIfInBounds i true) w → wN P md ops Q G fuel (listed.setIfInBounds i true) a w → K' a w) → if Region.wanted o (yielded ops a.tmps) = true then Oper.wp P o a w K' Q else K' (a.put o.dst undef) w) :
  wN P md ops Q G (fuel + 1) listed a w := by
 refine ⟨fun h0 => (by rw [hr] at h0; cases h0), fun j hj => ?_⟩
 rw [hr] at hj
 have : j = i := by simpa using hj
 subst this
 exact wpOp_step ho (fun K' hK => h K' (fun a w hG hW => hK a w ⟨hG, hW⟩))
theorem twoG {i j : Nat} {o o' : Oper} {fuel : Nat} {listed : Array Bool} {a : Act} {w : World} (hr : Region.ready md ops listed = [i, j]) (ho : ops[i]? = some o) (ho' : ops[j]? = some o')
  (h : ∀ K' : Act → World → Prop, Shut (∀ a w, G (listed.setIfInBounds i true) w → wN P md ops Q G fuel (listed.setIfInBounds i true) a w → K' a w) → if Region.wanted o (yielded ops a.tmps) = true then Oper.wp P o a w K' Q else K' (a.put o.dst undef) w)
  (h' : ∀ K' : Act → World → Prop, Shut (∀ a w, G (listed.setIfInBounds j true) w → wN P md ops Q G fuel (listed.setIfInBounds j true) a w → K' a w) → if Region.wanted o' (yielded ops a.tmps) = true then Oper.wp P o' a w K' Q else K' (a.put o'.dst undef) w) :
  wN P md ops Q G (fuel + 1) listed a w := by
 refine ⟨fun h0 => (by rw [hr] at h0; cases h0), fun k hk => ?_⟩
 rw [hr] at hk
 rcases (by simpa using hk : k = i ∨ k = j) with rfl | rfl
 ·exact wpOp_step ho (fun K' hK => h K' (fun a w hG hW => hK a w ⟨hG, hW⟩))
 ·exact wpOp_step ho' (fun K' hK => h' K' (fun a w hG hW => hK a w ⟨hG, hW⟩))
theorem oE {id : Nat} {a : Act} {w : World} (hm : P.follows .mixedOrders = true)
  (h : wN P .any ops Q G ops.size (Array.replicate ops.size false) a w.drew) : (Code.region id ops true).wp P Q a w :=
 wp_region_any hm (lF _ _ _ _ h)
end
theorem takeC {P : Program} {md : Region.Mode} {ops : Array Oper} {Q : Exit → Act → World → Prop} {s : Nat} {A B : World → Prop} {i : Nat} {oi : Oper} {v : Value} {fuel : Nat} {listed : Array Bool} {a : Act} {w : World} (hi : ops[i]? = some oi) (hne : (i == s) = false) (hy : YieldsIf P ops A oi v a) (hG : tY s A B listed w)
    (h : wN P md ops Q (tY s A B) fuel (listed.setIfInBounds i true) (a.put oi.dst v) w)
    (hs : Region.noSelect ops = true := by kernel_rfl) (hf : Region.free md ops listed i = true := by kernel_rfl) (hr : (Region.ready md ops listed).contains i = true := by kernel_rfl)
    (hQ : ∀ c a w, Q (.panic c) (a.put oi.dst v) w → Q (.panic c) a w := by exact fun _ _ _ h => h) : wN P md ops Q (tY s A B) (fuel + 1) listed a w := takeA hi hne hs hf hr hQ hy hG h
theorem takeD {P : Program} {md : Region.Mode} {ops : Array Oper} {Q : Exit → Act → World → Prop} {s : Nat} {A B : World → Prop} {i : Nat} {oi : Oper} {v : Value} {fuel : Nat} {listed : Array Bool} {a : Act} {w : World} (hi : ops[i]? = some oi) (hne : (i == s) = false) (hy : YieldsIf P ops (fun w => A w ∧ B w) oi v a) (hG : tY s A B listed w)
    (h : wN P md ops Q (tY s A B) fuel (listed.setIfInBounds i true) (a.put oi.dst v) w)
    (hw : (match ops[s]? with | some os => os.after.any fun e => Region.binds md e && (e.on == i) | none => false) = true := by kernel_rfl) (hun : listed.getD s true = false := by rfl)
    (hs : Region.noSelect ops = true := by kernel_rfl) (hf : Region.free md ops listed i = true := by kernel_rfl) (hr : (Region.ready md ops listed).contains i = true := by kernel_rfl)
    (hQ : ∀ c a w, Q (.panic c) (a.put oi.dst v) w → Q (.panic c) a w := by exact fun _ _ _ h => h) : wN P md ops Q (tY s A B) (fuel + 1) listed a w := takeB hi hne hw hun hs hf hr hQ hy hG h
theorem pZ (p q : Nat → Bool) (hle : ∀ j, q j = true → p j = true) : ∀ l : List Nat, (l.filter q).length ≤ (l.filter p).length
 | [] => Nat.le_refl _
 | x :: l => by
  have ih := pZ p q hle l
  by_cases hq : q x = true
  ·rw [List.filter_cons_of_pos hq, List.filter_cons_of_pos (hle x hq)]
   simp only [List.length_cons]; omega
  ·rw [List.filter_cons_of_neg hq]
   by_cases hp : p x = true
   ·rw [List.filter_cons_of_pos hp]; simp only [List.length_cons]; omega
   ·rw [List.filter_cons_of_neg hp]; exact ih
theorem pY (p q : Nat → Bool) (hle : ∀ j, q j = true → p j = true) {i : Nat} (hp : p i = true) (hq : q i = false) : ∀ l : List Nat, i ∈ l → (l.filter q).length < (l.filter p).length
 | [], h => by cases h
 | x :: l, h => by
  rcases List.mem_cons.1 h with rfl | h'
  ·have := pZ p q hle l
   rw [List.filter_cons_of_pos hp, List.filter_cons_of_neg (by rw [hq]; simp)]
   simp only [List.length_cons]; omega
  ·have ih := pY p q hle hp hq l h'
   by_cases hqx : q x = true
   ·rw [List.filter_cons_of_pos hqx, List.filter_cons_of_pos (hle x hqx)]
    simp only [List.length_cons]; omega
   ·rw [List.filter_cons_of_neg hqx]
    by_cases hpx : p x = true
    ·rw [List.filter_cons_of_pos hpx]; simp only [List.length_cons]; omega
    ·rw [List.filter_cons_of_neg hpx]; exact ih
section
variable {P : Program} {md : Region.Mode} {ops : Array Oper} {Q : Exit → Act → World → Prop}
def undone (ops : Array Oper) (listed : Array Bool) : Nat := ((List.range ops.size).filter fun i => !listed.getD i true).length
theorem lH {listed : Array Bool} {i : Nat} (hi : i ∈ Region.ready md ops listed) : undone ops (listed.setIfInBounds i true) < undone ops listed := by
 obtain ⟨h0, o, ho, _⟩ := mem_ready.1 hi
 have hlt : i < ops.size := by
  rcases Nat.lt_or_ge i ops.size with h | h
  ·exact h
  ·rw [Array.getElem?_eq_none h] at ho; cases ho
 refine pY _ _ (fun j hj => ?_) (i := i) (by rw [h0]; rfl) (by rw [wH]; rfl) _ (List.mem_range.2 hlt)
 by_cases e : i = j
 ·subst e; rw [wH] at hj; cases hj
 ·rwa [Go.getD_set_ne true e] at hj
end
end Go.Proofs.Ytgbfaggnnfoamaa
