/- Part 8 of the proof: TRows, Byte1, Guard, Inv. -/
import Derived.Test.YtjfdomfendbhfaaQb7
import Derived.OrdersHeld
set_option linter.unusedVariables false
set_option linter.unusedSimpArgs false
namespace Go.Proofs.Ytjfdomfendbhfaa
open Go.RowKit
def RowT (B : Nat) (e : TypeId) (w : World) (v : Value) (xs : List Value) : Prop :=
 (v = .slice none 0 0 ∧ xs = []) ∨ ∃ b off cap cur m, v = .slice (some ⟨b, off, none⟩) xs.length cap ∧ b < B ∧ xs.length ≤ cap ∧ cap ≤ maxLen ∧ w.heap[b]? = some (.cells cur e m) ∧ ∀ i (h : i < xs.length), cur[off + i]? = some xs[i]
theorem RowT.row {B : Nat} {e : TypeId} {w : World} {v : Value} {xs : List Value} (h : RowT B e w v xs) : Row B w v xs := by
 rcases h with h | ⟨b, off, cap, cur, m, h1, h2, h3, h4, h5, h6⟩
 ·exact .inl ⟨_, _, h⟩
 ·exact .inr ⟨b, off, cap, h1, h2, h3, h4, zN h5, fun i hi => by rw [cell_of_row w b (off + i) _ _ _ h5]; exact h6 i hi⟩
theorem RowT.mono {B B' : Nat} {e : TypeId} {w : World} {v : Value} {xs : List Value} (h : RowT B e w v xs) (hB : B ≤ B') : RowT B' e w v xs := by
 rcases h with h | ⟨b, off, cap, cur, m, h1, h2, h3⟩
 ·exact .inl h
 ·exact .inr ⟨b, off, cap, cur, m, h1, by omega, h3⟩
def zY (w : World) (e : TypeId) (k : Nat) : Prop := ∃ cur e' m, w.heap[k]? = some (.cells cur e' m) ∧ e' ≠ e
theorem RowT.kept {B : Nat} {e : TypeId} {w w' : World} {v : Value} {xs : List Value} {row : Option Nat} (h : RowT B e w v xs) (hg : w.grownBy w' row) (hr : ∀ k, row = some k → B ≤ k ∨ zY w e k) : RowT B e w' v xs := by
 rcases h with h | ⟨b, off, cap, cur, m, h1, h2, h3, h4, h5, h6⟩
 ·exact .inl h
 ·refine .inr ⟨b, off, cap, cur, m, h1, h2, h3, h4, zB h5 hg (fun eq => ?_), h6⟩
  rcases hr b eq with hk | ⟨cur', e', m', hk, hne⟩
  ·omega
  ·rw [h5] at hk; simp at hk; exact hne hk.2.1.symm
theorem RowT.of_heap {B : Nat} {e : TypeId} {w w' : World} {v : Value} {xs : List Value} (h : RowT B e w v xs) (he : w'.heap = w.heap) : RowT B e w' v xs := by
 rcases h with h | ⟨b, off, cap, cur, m, h1, h2, h3, h4, h5, h6⟩
 ·exact .inl h
 ·exact .inr ⟨b, off, cap, cur, m, h1, h2, h3, h4, by rw [he]; exact h5, h6⟩
theorem RowT.of_owns {w : World} {base e : Nat} {v : Value} {n : Nat} {xs : List Value} (h : w.ownsRow base e 1 v n xs) : RowT w.heap.size e w v xs := by
 have hl : xs.length = n := by have := h.1; omega
 rcases h.2 with ⟨rfl, rfl⟩ | ⟨g, cap, cur, rfl, hb, hg, hnc, hcm, hcs, htake⟩
 ·exact .inl ⟨rfl, List.eq_nil_of_length_eq_zero hl⟩
 ·refine .inr ⟨g, 0, cap, cur, (0, 0), by rw [hl], zN hg, by omega, hcm, hg, fun i hi => ?_⟩
  have := h.cellAt i (by omega)
  rw [cell_of_row w g i _ _ _ hg] at this
  rw [Nat.zero_add, this, List.getElem?_eq_getElem hi]
theorem yB {w : World} {base e e' size : Nat} {v : Value} {n : Nat} {xs : List Value} (h : w.ownsRow base e size v n xs) (hne : e ≠ e') : ∀ k, v.ownBlock = some k → zY w e' k := by
 intro k hk
 rcases h.2 with ⟨rfl, _⟩ | ⟨g, cap, cur, rfl, _, hg, _⟩
 ·simp [Value.ownBlock] at hk
 ·simp [Value.ownBlock] at hk
  subst hk
  exact ⟨cur, e, (0, 0), hg, hne⟩
def wL {α : Type} (B : Nat) (e : TypeId) (f : α → List Value) (w : World) (svs : List Value) (ps : List α) : Prop :=
 svs.length = ps.length ∧ ∀ i (h : i < svs.length) (h' : i < ps.length), RowT B e w svs[i] (f ps[i])
section
variable {α : Type} {B : Nat} {e : TypeId} {f : α → List Value} {w : World} {svs : List Value} {ps : List α}
theorem wL.nil : wL B e f w [] [] := ⟨rfl, fun i h => by simp at h⟩
theorem wL.kept {w' : World} {row : Option Nat} (h : wL B e f w svs ps) (hg : w.grownBy w' row) (hr : ∀ k, row = some k → B ≤ k ∨ zY w e k) : wL B e f w' svs ps :=
 ⟨h.1, fun i h1 h2 => (h.2 i h1 h2).kept hg hr⟩
theorem wL.mono {B' : Nat} (h : wL B e f w svs ps) (hB : B ≤ B') : wL B' e f w svs ps := ⟨h.1, fun i h1 h2 => (h.2 i h1 h2).mono hB⟩
theorem wL.snoc {sv : Value} {p : α} (h : wL B e f w svs ps) (hs : RowT B e w sv (f p)) : wL B e f w (svs ++ [sv]) (ps ++ [p]) := by
 refine ⟨by simp [h.1], fun i h1 h2 => ?_⟩
 by_cases hi : i < svs.length
 ·rw [List.getElem_append_left hi, List.getElem_append_left (by rw [← h.1]; exact hi)]
  exact h.2 i hi _
 ·have : i = svs.length := by simp at h1; omega
  subst this
  rw [List.getElem_append_right (Nat.le_refl _), List.getElem_append_right (by rw [h.1]; exact Nat.le_refl _)]
  simpa [h.1] using hs
end
theorem jD {P : Program} {W : World} {g : Nat} {c : Int} (src e : TypeId) (hs : P.underlying src = some (.slice e)) (he : P.underlying e = some (.int .u8)) (dst : TypeId) (hd : P.underlying dst = some .string)
  (h : W.cell? ⟨g, 0, none⟩ = some (.int .u8 c)) : (convert src dst (.slice (some ⟨g, 0, none⟩) 1 1)).run P W = .ok (.string (strOfNums [c])) W := by
 refine run_convert_bytes_arg W src e hs he g 0 1 1 [c] rfl (fun i hi => ?_) dst hd
 have : i = 0 := by simp at hi; omega
 subst this
 simpa using h
section
variable {P : Program} {md : Region.Mode} {ops : Array Oper} {Q : Exit → Act → World → Prop}
def vY (P : Program) (md : Region.Mode) (ops : Array Oper) (Q : Exit → Act → World → Prop) (G : Array Bool → World → Prop) : Nat → Array Bool → Act → World → Prop
 | 0, listed, a, w => Region.ready md ops listed = [] ∧ Q .normal a w
 | fuel + 1, listed, a, w =>
  (Region.ready md ops listed = [] → Q .normal a w) ∧
  ∀ i ∈ Region.ready md ops listed, wpOp P ops Q i (fun a' w' => G (listed.setIfInBounds i true) w' ∧ vY P md ops Q G fuel (listed.setIfInBounds i true) a' w') a w
variable {G : Array Bool → World → Prop}
theorem wpAny_of_G : ∀ (fuel : Nat) (listed : Array Bool) (a : Act) (w : World), vY P md ops Q G fuel listed a w → wpAny P md ops Q fuel listed a w
 | 0, _, _, _, h => h
 | fuel + 1, _, _, _, h => ⟨h.1, fun i hi => wpOp_mono (fun a' w' h' => wpAny_of_G fuel _ a' w' h'.2) (h.2 i hi)⟩
theorem lI {S : World → Prop} {U : Array Bool → Prop} {i : Nat} {oi : Oper} {v : Value} (hi : ops[i]? = some oi) (hsel : ∀ (j : Nat) (o : Oper) cs b, ops[j]? = some o → o.op ≠ .select cs b)
  (hQ : ∀ c a w, Q (.panic c) (a.put oi.dst v) w → Q (.panic c) a w)
  (hU : ∀ listed j, U listed → i ∈ Region.ready md ops listed → j ∈ Region.ready md ops listed → j ≠ i → U (listed.setIfInBounds j true))
  (hG : ∀ listed w, U listed → G listed w → S w) (hGi : ∀ listed w, U listed → i ∈ Region.ready md ops listed → G listed w → G (listed.setIfInBounds i true) w)
  (hGj : ∀ listed j w, U listed → i ∈ Region.ready md ops listed → j ∈ Region.ready md ops listed → j ≠ i → G ((listed.setIfInBounds i true).setIfInBounds j true) w → G (listed.setIfInBounds j true) w) :
  ∀ (fuel : Nat) (listed : Array Bool) (a : Act) (w : World),
   (∀ j oj, ops[j]? = some oj → j ≠ i → listed.getD j true = false → (∀ e ∈ oj.after, Region.binds md e = true → e.on ≠ i) → oi.apart ops oj = true) →
   i ∈ Region.ready md ops listed → U listed → YieldsIf P ops S oi v a → G listed w →
   vY P md ops Q G fuel (listed.setIfInBounds i true) (a.put oi.dst v) w → vY P md ops Q G (fuel + 1) listed a w := by
 intro fuel
 induction fuel with
 | zero =>
  intro listed a w _ hr hu hy hS H
  refine ⟨fun h => (by rw [h] at hr; cases hr), fun j hj => ?_⟩
  by_cases hji : j = i
  ·subst hji; exact hy.wpOp hi (hG _ _ hu hS) ⟨hGi _ _ hu hr hS, H⟩
  ·have := ready_mono hj hji
   rw [H.1] at this
   cases this
 | succ fuel ih =>
  intro listed a w hfree hr hu hy hS H
  refine ⟨fun h => (by rw [h] at hr; cases hr), fun j hj => ?_⟩
  by_cases hji : j = i
  ·subst hji; exact hy.wpOp hi (hG _ _ hu hS) ⟨hGi _ _ hu hr hS, H⟩
  ·have h1 := H.2 j (ready_mono hj hji)
   obtain ⟨hjun, oj, hoj, hall⟩ := mem_ready.1 hj
   have hnot : ∀ e ∈ oj.after, Region.binds md e = true → e.on ≠ i := fun e he hb heq => by
    have h1 := hall e he hb
    have h0 := (mem_ready.1 hr).1
    rw [heq] at h1
    rcases Nat.lt_or_ge i listed.size with h' | h'
    ·simp [h'] at h0 h1; rw [h0] at h1; cases h1
    ·simp [Array.getElem?_eq_none h'] at h1
   have h2 := wpOp_putIf hoj (hfree j oj hoj hji hjun hnot) (fun cs b => hsel i oi cs b hi) (fun cs b => hsel j oj cs b hoj) hQ hy h1
   have hfree' : ∀ k ok, ops[k]? = some ok → k ≠ i → (listed.setIfInBounds j true).getD k true = false →
     (∀ e ∈ ok.after, Region.binds md e = true → e.on ≠ i) → oi.apart ops ok = true := fun k ok hk hki hun hno => by
    refine hfree k ok hk hki ?_ hno
    by_cases hjk : j = k
    ·subst hjk; exact hjun
    ·rw [Go.getD_set_ne true hjk] at hun; exact hun
   have hu' := hU listed j hu hr hj hji
   refine wpOp_mono (fun a' w' h3 => ?_) h2
   have hGw := hGj listed j w' hu hr hj hji h3.2.1
   refine ⟨hGw, ih (listed.setIfInBounds j true) a' w' hfree' (ready_mono hr (Ne.symm hji)) hu' h3.1 hGw ?_⟩
   rw [Array.setIfInBounds_comm _ _ hji]
   exact h3.2.2
def uS (s : Nat) (A B : World → Prop) (listed : Array Bool) (w : World) : Prop := A w ∧ (listed.getD s true = false → B w)
theorem wW {l : Array Bool} {i : Nat} : (l.setIfInBounds i true).getD i true = true := by
 rcases Nat.lt_or_ge i l.size with h | h
 ·simp [h]
 ·simp [h]
theorem until_set {s j : Nat} {A B : World → Prop} {listed : Array Bool} {w : World} (h : uS s A B listed w) : uS s A B (listed.setIfInBounds j true) w := by
 refine ⟨h.1, fun hs => h.2 ?_⟩
 by_cases e : j = s
 ·subst e; rw [wW] at hs; cases hs
 ·rwa [Go.getD_set_ne true e] at hs
theorem kS {s i j : Nat} {A B : World → Prop} {listed : Array Bool} {w : World} (hne : i ≠ s) (h : uS s A B ((listed.setIfInBounds i true).setIfInBounds j true) w) : uS s A B (listed.setIfInBounds j true) w := by
 refine ⟨h.1, fun hs => h.2 ?_⟩
 by_cases e : j = s
 ·subst e; rw [wW] at hs; cases hs
 ·rw [Go.getD_set_ne true e] at hs ⊢
  rwa [Go.getD_set_ne true hne]
variable {s : Nat} {A B : World → Prop}
theorem takeA {i : Nat} {oi : Oper} {v : Value} {fuel : Nat} {listed : Array Bool} {a : Act} {w : World} (hi : ops[i]? = some oi) (hne : (i == s) = false)
  (hs : Region.noSelect ops = true) (hf : Region.free md ops listed i = true) (hr : (Region.ready md ops listed).contains i = true)
  (hQ : ∀ c a w, Q (.panic c) (a.put oi.dst v) w → Q (.panic c) a w) (hy : YieldsIf P ops A oi v a) (hG : uS s A B listed w)
  (h : vY P md ops Q (uS s A B) fuel (listed.setIfInBounds i true) (a.put oi.dst v) w) : vY P md ops Q (uS s A B) (fuel + 1) listed a w :=
 lI (S := A) (U := fun _ => True) hi (Region.noSelect_spec hs) hQ (fun _ _ _ _ _ _ => trivial) (fun _ _ _ h => h.1) (fun _ _ _ _ h => until_set h)
  (fun _ _ _ _ _ _ _ h => kS (by simpa using hne) h) fuel listed a w (Region.free_spec hi hf) (by simpa using hr) trivial hy hG h
theorem takeB {i : Nat} {oi : Oper} {v : Value} {fuel : Nat} {listed : Array Bool} {a : Act} {w : World} (hi : ops[i]? = some oi) (hne : (i == s) = false)
  (hw : (match ops[s]? with | some os => os.after.any fun e => Region.binds md e && (e.on == i) | none => false) = true) (hun : listed.getD s true = false)
  (hs : Region.noSelect ops = true) (hf : Region.free md ops listed i = true) (hr : (Region.ready md ops listed).contains i = true)
  (hQ : ∀ c a w, Q (.panic c) (a.put oi.dst v) w → Q (.panic c) a w) (hy : YieldsIf P ops (fun w => A w ∧ B w) oi v a) (hG : uS s A B listed w)
  (h : vY P md ops Q (uS s A B) fuel (listed.setIfInBounds i true) (a.put oi.dst v) w) : vY P md ops Q (uS s A B) (fuel + 1) listed a w := by
 refine lI (S := fun w => A w ∧ B w) (U := fun l => l.getD s true = false) hi (Region.noSelect_spec hs) hQ (fun l j hu hir hj hji => ?_) (fun l w hu h => ⟨h.1, h.2 hu⟩) (fun _ _ _ _ h => until_set h)
  (fun _ _ _ _ _ _ _ h => kS (by simpa using hne) h) fuel listed a w (Region.free_spec hi hf) (by simpa using hr) hun hy hG h
 by_cases e : j = s
 ·subst e
  exfalso
  obtain ⟨hjun, oj, hoj, hall⟩ := mem_ready.1 hj
  rw [hoj] at hw
  simp only [Array.any_eq_true, Bool.and_eq_true, beq_iff_eq] at hw
  obtain ⟨k, hk, hb, he⟩ := hw
  have h1 := hall _ (Array.getElem_mem hk) hb
  have h0 := (mem_ready.1 hir).1
  rw [he] at h1
  rcases Nat.lt_or_ge i l.size with h' | h'
  ·simp [h'] at h0 h1; rw [h0] at h1; cases h1
  ·simp [Array.getElem?_eq_none h'] at h1
 ·rw [Go.getD_set_ne true e]; exact hu
theorem kH {listed : Array Bool} {a : Act} {w : World} (hr : Region.ready md ops listed = []) (h : Q .normal a w) : ∀ fuel, vY P md ops Q G fuel listed a w
 | 0 => ⟨hr, h⟩
 | _ + 1 => ⟨fun _ => h, by rw [hr]; simp⟩
theorem oneG {i : Nat} {o : Oper} {fuel : Nat} {listed : Array Bool} {a : Act} {w : World} (hr : Region.ready md ops listed = [i]) (ho : ops[i]? = some o)
  (h : ∀ K' : Act → World → Prop, Shut (∀ a w, G (listed.setIfInBounds i true) w → vY P md ops Q G fuel (listed.setIfInBounds i true) a w → K' a w) → if Region.wanted o (yielded ops a.tmps) = true then Oper.wp P o a w K' Q else K' (a.put o.dst undef) w) :
  vY P md ops Q G (fuel + 1) listed a w := by
 refine ⟨fun h0 => (by rw [hr] at h0; cases h0), fun j hj => ?_⟩
 rw [hr] at hj
 have : j = i := by simpa using hj
 subst this
 exact wpOp_step ho (fun K' hK => h K' (fun a w hG hW => hK a w ⟨hG, hW⟩))
theorem wC {id : Nat} {a : Act} {w : World} (hm : P.follows .mixedOrders = true)
  (h : vY P .any ops Q G ops.size (Array.replicate ops.size false) a w.drew) : (Code.region id ops true).wp P Q a w :=
 wp_region_any hm (wpAny_of_G _ _ _ _ h)
end
theorem takeC {P : Program} {md : Region.Mode} {ops : Array Oper} {Q : Exit → Act → World → Prop} {s : Nat} {A B : World → Prop} {i : Nat} {oi : Oper} {v : Value} {fuel : Nat} {listed : Array Bool} {a : Act} {w : World} (hi : ops[i]? = some oi) (hne : (i == s) = false) (hy : YieldsIf P ops A oi v a) (hG : uS s A B listed w)
    (h : vY P md ops Q (uS s A B) fuel (listed.setIfInBounds i true) (a.put oi.dst v) w)
    (hs : Region.noSelect ops = true := by kernel_rfl) (hf : Region.free md ops listed i = true := by kernel_rfl) (hr : (Region.ready md ops listed).contains i = true := by kernel_rfl)
    (hQ : ∀ c a w, Q (.panic c) (a.put oi.dst v) w → Q (.panic c) a w := by exact fun _ _ _ h => h) : vY P md ops Q (uS s A B) (fuel + 1) listed a w := takeA hi hne hs hf hr hQ hy hG h
theorem takeD {P : Program} {md : Region.Mode} {ops : Array Oper} {Q : Exit → Act → World → Prop} {s : Nat} {A B : World → Prop} {i : Nat} {oi : Oper} {v : Value} {fuel : Nat} {listed : Array Bool} {a : Act} {w : World} (hi : ops[i]? = some oi) (hne : (i == s) = false) (hy : YieldsIf P ops (fun w => A w ∧ B w) oi v a) (hG : uS s A B listed w)
    (h : vY P md ops Q (uS s A B) fuel (listed.setIfInBounds i true) (a.put oi.dst v) w)
    (hw : (match ops[s]? with | some os => os.after.any fun e => Region.binds md e && (e.on == i) | none => false) = true := by kernel_rfl) (hun : listed.getD s true = false := by rfl)
    (hs : Region.noSelect ops = true := by kernel_rfl) (hf : Region.free md ops listed i = true := by kernel_rfl) (hr : (Region.ready md ops listed).contains i = true := by kernel_rfl)
    (hQ : ∀ c a w, Q (.panic c) (a.put oi.dst v) w → Q (.panic c) a w := by exact fun _ _ _ h => h) : vY P md ops Q (uS s A B) (fuel + 1) listed a w := takeB hi hne hw hun hs hf hr hQ hy hG h
theorem mD (p q : Nat → Bool) (hle : ∀ j, q j = true → p j = true) : ∀ l : List Nat, (l.filter q).length ≤ (l.filter p).length
 | [] => Nat.le_refl _
 | x :: l => by
  have ih := mD p q hle l
  by_cases hq : q x = true
  ·rw [List.filter_cons_of_pos hq, List.filter_cons_of_pos (hle x hq)]
   simp only [List.length_cons]; omega
  ·rw [List.filter_cons_of_neg hq]
   by_cases hp : p x = true
   ·rw [List.filter_cons_of_pos hp]; simp only [List.length_cons]; omega
   ·rw [List.filter_cons_of_neg hp]; exact ih
theorem mC (p q : Nat → Bool) (hle : ∀ j, q j = true → p j = true) {i : Nat} (hp : p i = true) (hq : q i = false) : ∀ l : List Nat, i ∈ l → (l.filter q).length < (l.filter p).length
 | [], h => by cases h
 | x :: l, h => by
  rcases List.mem_cons.1 h with rfl | h'
  ·have := mD p q hle l
   rw [List.filter_cons_of_pos hp, List.filter_cons_of_neg (by rw [hq]; simp)]
   simp only [List.length_cons]; omega
  ·have ih := mC p q hle hp hq l h'
   by_cases hqx : q x = true
   ·rw [List.filter_cons_of_pos hqx, List.filter_cons_of_pos (hle x hqx)]
    simp only [List.length_cons]; omega
   ·rw [List.filter_cons_of_neg hqx]
    by_cases hpx : p x = true
    ·rw [List.filter_cons_of_pos hpx]; simp only [List.length_cons]; omega
    ·rw [List.filter_cons_of_neg hpx]; exact ih
section
variable {P : Program} {md : Region.Mode} {ops : Array Oper} {Q : Exit → Act → World → Prop}
def undone (ops : Array Oper) (listed : Array Bool) : Nat := ((List.range ops.size).filter fun i => !listed.getD i true).length
theorem undone_set {listed : Array Bool} {i : Nat} (hi : i ∈ Region.ready md ops listed) : undone ops (listed.setIfInBounds i true) < undone ops listed := by
 obtain ⟨h0, o, ho, _⟩ := mem_ready.1 hi
 have hlt : i < ops.size := by
  rcases Nat.lt_or_ge i ops.size with h | h
  ·exact h
  ·rw [Array.getElem?_eq_none h] at ho; cases ho
 refine mC _ _ (fun j hj => ?_) (i := i) (by rw [h0]; rfl) (by rw [wW]; rfl) _ (List.mem_range.2 hlt)
 by_cases e : i = j
 ·subst e; rw [wW] at hj; cases hj
 ·rwa [Go.getD_set_ne true e] at hj
end
end Go.Proofs.Ytjfdomfendbhfaa
