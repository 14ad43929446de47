/- Part 9 of the proof: TRows, Byte1, Guard, Many. -/
import Derived.Test.YtjfdomfendbhfaaQa8
import Derived.OrdersHeld
set_option linter.unusedVariables false
set_option linter.unusedSimpArgs false
namespace Go.Proofs.Ytjfdomfendbhfaa
open Go.RowKit
def RowT (B : Nat) (e : TypeId) (w : World) (v : Value) (xs : List Value) : Prop :=
 (v = .slice none 0 0 ∧ xs = []) ∨ ∃ b off cap cur m, v = .slice (some ⟨b, off, none⟩) xs.length cap ∧ b < B ∧ xs.length ≤ cap ∧ cap ≤ maxLen ∧ w.heap[b]? = some (.cells cur e m) ∧ ∀ i (h : i < xs.length), cur[off + i]? = some xs[i]
theorem RowT.row {B : Nat} {e : TypeId} {w : World} {v : Value} {xs : List Value} (h : RowT B e w v xs) : Row B w v xs := by
 rcases h with h | ⟨b, off, cap, cur, m, h1, h2, h3, h4, h5, h6⟩
 ·exact .inl ⟨_, _, h⟩
 ·exact .inr ⟨b, off, cap, h1, h2, h3, h4, zJ h5, fun i hi => by rw [cell_of_row w b (off + i) _ _ _ h5]; exact h6 i hi⟩
theorem RowT.mono {B B' : Nat} {e : TypeId} {w : World} {v : Value} {xs : List Value} (h : RowT B e w v xs) (hB : B ≤ B') : RowT B' e w v xs := by
 rcases h with h | ⟨b, off, cap, cur, m, h1, h2, h3⟩
 ·exact .inl h
 ·exact .inr ⟨b, off, cap, cur, m, h1, by omega, h3⟩
def yF (w : World) (e : TypeId) (k : Nat) : Prop := ∃ cur e' m, w.heap[k]? = some (.cells cur e' m) ∧ e' ≠ e
theorem RowT.kept {B : Nat} {e : TypeId} {w w' : World} {v : Value} {xs : List Value} {row : Option Nat} (h : RowT B e w v xs) (hg : w.grownBy w' row) (hr : ∀ k, row = some k → B ≤ k ∨ yF w e k) : RowT B e w' v xs := by
 rcases h with h | ⟨b, off, cap, cur, m, h1, h2, h3, h4, h5, h6⟩
 ·exact .inl h
 ·refine .inr ⟨b, off, cap, cur, m, h1, h2, h3, h4, zB h5 hg (fun eq => ?_), h6⟩
  rcases hr b eq with hk | ⟨cur', e', m', hk, hne⟩
  ·omega
  ·rw [h5] at hk; simp at hk; exact hne hk.2.1.symm
theorem RowT.of_heap {B : Nat} {e : TypeId} {w w' : World} {v : Value} {xs : List Value} (h : RowT B e w v xs) (he : w'.heap = w.heap) : RowT B e w' v xs := by
 rcases h with h | ⟨b, off, cap, cur, m, h1, h2, h3, h4, h5, h6⟩
 ·exact .inl h
 ·exact .inr ⟨b, off, cap, cur, m, h1, h2, h3, h4, by rw [he]; exact h5, h6⟩
theorem RowT.of_owns {w : World} {base e : Nat} {v : Value} {n : Nat} {xs : List Value} (h : w.ownsRow base e 1 v n xs) : RowT w.heap.size e w v xs := by
 have hl : xs.length = n := by have := h.1; omega
 rcases h.2 with ⟨rfl, rfl⟩ | ⟨g, cap, cur, rfl, hb, hg, hnc, hcm, hcs, htake⟩
 ·exact .inl ⟨rfl, List.eq_nil_of_length_eq_zero hl⟩
 ·refine .inr ⟨g, 0, cap, cur, (0, 0), by rw [hl], zJ hg, by omega, hcm, hg, fun i hi => ?_⟩
  have := h.cellAt i (by omega)
  rw [cell_of_row w g i _ _ _ hg] at this
  rw [Nat.zero_add, this, List.getElem?_eq_getElem hi]
theorem yQ {w : World} {base e e' size : Nat} {v : Value} {n : Nat} {xs : List Value} (h : w.ownsRow base e size v n xs) (hne : e ≠ e') : ∀ k, v.ownBlock = some k → yF w e' k := by
 intro k hk
 rcases h.2 with ⟨rfl, _⟩ | ⟨g, cap, cur, rfl, _, hg, _⟩
 ·simp [Value.ownBlock] at hk
 ·simp [Value.ownBlock] at hk
  subst hk
  exact ⟨cur, e, (0, 0), hg, hne⟩
def wL {α : Type} (B : Nat) (e : TypeId) (f : α → List Value) (w : World) (svs : List Value) (ps : List α) : Prop :=
 svs.length = ps.length ∧ ∀ i (h : i < svs.length) (h' : i < ps.length), RowT B e w svs[i] (f ps[i])
section
variable {α : Type} {B : Nat} {e : TypeId} {f : α → List Value} {w : World} {svs : List Value} {ps : List α}
theorem wL.nil : wL B e f w [] [] := ⟨rfl, fun i h => by simp at h⟩
theorem wL.kept {w' : World} {row : Option Nat} (h : wL B e f w svs ps) (hg : w.grownBy w' row) (hr : ∀ k, row = some k → B ≤ k ∨ yF w e k) : wL B e f w' svs ps :=
 ⟨h.1, fun i h1 h2 => (h.2 i h1 h2).kept hg hr⟩
theorem wL.mono {B' : Nat} (h : wL B e f w svs ps) (hB : B ≤ B') : wL B' e f w svs ps := ⟨h.1, fun i h1 h2 => (h.2 i h1 h2).mono hB⟩
theorem wL.snoc {sv : Value} {p : α} (h : wL B e f w svs ps) (hs : RowT B e w sv (f p)) : wL B e f w (svs ++ [sv]) (ps ++ [p]) := by
 refine ⟨by simp [h.1], fun i h1 h2 => ?_⟩
 by_cases hi : i < svs.length
 ·rw [List.getElem_append_left hi, List.getElem_append_left (by rw [← h.1]; exact hi)]
  exact h.2 i hi _
 ·have : i = svs.length := by simp at h1; omega
  subst this
  rw [List.getElem_append_right (Nat.le_refl _), List.getElem_append_right (by rw [h.1]; exact Nat.le_refl _)]
  simpa [h.1] using hs
end
theorem run_byte1 {P : Program} {W : World} {g : Nat} {c : Int} (src e : TypeId) (hs : P.underlying src = some (.slice e)) (he : P.underlying e = some (.int .u8)) (dst : TypeId) (hd : P.underlying dst = some .string)
  (h : W.cell? ⟨g, 0, none⟩ = some (.int .u8 c)) : (convert src dst (.slice (some ⟨g, 0, none⟩) 1 1)).run P W = .ok (.string (strOfNums [c])) W := by
 refine run_convert_bytes_arg W src e hs he g 0 1 1 [c] rfl (fun i hi => ?_) dst hd
 have : i = 0 := by simp at hi; omega
 subst this
 simpa using h
section
variable {P : Program} {md : Region.Mode} {ops : Array Oper} {Q : Exit → Act → World → Prop}
def uE (P : Program) (md : Region.Mode) (ops : Array Oper) (Q : Exit → Act → World → Prop) (G : Array Bool → World → Prop) : Nat → Array Bool → Act → World → Prop
 | 0, listed, a, w => Region.ready md ops listed = [] ∧ Q .normal a w
 | fuel + 1, listed, a, w =>
  (Region.ready md ops listed = [] → Q .normal a w) ∧
  ∀ i ∈ Region.ready md ops listed, wpOp P ops Q i (fun a' w' => G (listed.setIfInBounds i true) w' ∧ uE P md ops Q G fuel (listed.setIfInBounds i true) a' w') a w
variable {G : Array Bool → World → Prop}
theorem kN : ∀ (fuel : Nat) (listed : Array Bool) (a : Act) (w : World), uE P md ops Q G fuel listed a w → wpAny P md ops Q fuel listed a w
 | 0, _, _, _, h => h
 | fuel + 1, _, _, _, h => ⟨h.1, fun i hi => wpOp_mono (fun a' w' h' => kN fuel _ a' w' h'.2) (h.2 i hi)⟩
theorem oW {S : World → Prop} {U : Array Bool → Prop} {i : Nat} {oi : Oper} {v : Value} (hi : ops[i]? = some oi) (hsel : ∀ (j : Nat) (o : Oper) cs b, ops[j]? = some o → o.op ≠ .select cs b)
  (hQ : ∀ c a w, Q (.panic c) (a.put oi.dst v) w → Q (.panic c) a w)
  (hU : ∀ listed j, U listed → i ∈ Region.ready md ops listed → j ∈ Region.ready md ops listed → j ≠ i → U (listed.setIfInBounds j true))
  (hG : ∀ listed w, U listed → G listed w → S w) (hGi : ∀ listed w, U listed → i ∈ Region.ready md ops listed → G listed w → G (listed.setIfInBounds i true) w)
  (hGj : ∀ listed j w, U listed → i ∈ Region.ready md ops listed → j ∈ Region.ready md ops listed → j ≠ i → G ((listed.setIfInBounds i true).setIfInBounds j true) w → G (listed.setIfInBounds j true) w) :
  ∀ (fuel : Nat) (listed : Array Bool) (a : Act) (w : World),
   (∀ j oj, ops[j]? = some oj → j ≠ i → listed.getD j true = false → (∀ e ∈ oj.after, Region.binds md e = true → e.on ≠ i) → oi.apart ops oj = true) →
   i ∈ Region.ready md ops listed → U listed → YieldsIf P ops S oi v a → G listed w →
   uE P md ops Q G fuel (listed.setIfInBounds i true) (a.put oi.dst v) w → uE P md ops Q G (fuel + 1) listed a w := by
 intro fuel
 induction fuel with
 | zero =>
  intro listed a w _ hr hu hy hS H
  refine ⟨fun h => (by rw [h] at hr; cases hr), fun j hj => ?_⟩
  by_cases hji : j = i
  ·subst hji; exact hy.wpOp hi (hG _ _ hu hS) ⟨hGi _ _ hu hr hS, H⟩
  ·have := ready_mono hj hji
   rw [H.1] at this
   cases this
 | succ fuel ih =>
  intro listed a w hfree hr hu hy hS H
  refine ⟨fun h => (by rw [h] at hr; cases hr), fun j hj => ?_⟩
  by_cases hji : j = i
  ·subst hji; exact hy.wpOp hi (hG _ _ hu hS) ⟨hGi _ _ hu hr hS, H⟩
  ·have h1 := H.2 j (ready_mono hj hji)
   obtain ⟨hjun, oj, hoj, hall⟩ := mem_ready.1 hj
   have hnot : ∀ e ∈ oj.after, Region.binds md e = true → e.on ≠ i := fun e he hb heq => by
    have h1 := hall e he hb
    have h0 := (mem_ready.1 hr).1
    rw [heq] at h1
    rcases Nat.lt_or_ge i listed.size with h' | h'
    ·simp [h'] at h0 h1; rw [h0] at h1; cases h1
    ·simp [Array.getElem?_eq_none h'] at h1
   have h2 := wpOp_putIf hoj (hfree j oj hoj hji hjun hnot) (fun cs b => hsel i oi cs b hi) (fun cs b => hsel j oj cs b hoj) hQ hy h1
   have hfree' : ∀ k ok, ops[k]? = some ok → k ≠ i → (listed.setIfInBounds j true).getD k true = false →
     (∀ e ∈ ok.after, Region.binds md e = true → e.on ≠ i) → oi.apart ops ok = true := fun k ok hk hki hun hno => by
    refine hfree k ok hk hki ?_ hno
    by_cases hjk : j = k
    ·subst hjk; exact hjun
    ·rw [Go.getD_set_ne true hjk] at hun; exact hun
   have hu' := hU listed j hu hr hj hji
   refine wpOp_mono (fun a' w' h3 => ?_) h2
   have hGw := hGj listed j w' hu hr hj hji h3.2.1
   refine ⟨hGw, ih (listed.setIfInBounds j true) a' w' hfree' (ready_mono hr (Ne.symm hji)) hu' h3.1 hGw ?_⟩
   rw [Array.setIfInBounds_comm _ _ hji]
   exact h3.2.2
def tE (s : Nat) (A B : World → Prop) (listed : Array Bool) (w : World) : Prop := A w ∧ (listed.getD s true = false → B w)
theorem pV {l : Array Bool} {i : Nat} : (l.setIfInBounds i true).getD i true = true := by
 rcases Nat.lt_or_ge i l.size with h | h
 ·simp [h]
 ·simp [h]
theorem until_set {s j : Nat} {A B : World → Prop} {listed : Array Bool} {w : World} (h : tE s A B listed w) : tE s A B (listed.setIfInBounds j true) w := by
 refine ⟨h.1, fun hs => h.2 ?_⟩
 by_cases e : j = s
 ·subst e; rw [pV] at hs; cases hs
 ·rwa [Go.getD_set_ne true e] at hs
theorem mF {s i j : Nat} {A B : World → Prop} {listed : Array Bool} {w : World} (hne : i ≠ s) (h : tE s A B ((listed.setIfInBounds i true).setIfInBounds j true) w) : tE s A B (listed.setIfInBounds j true) w := by
 refine ⟨h.1, fun hs => h.2 ?_⟩
 by_cases e : j = s
 ·subst e; rw [pV] at hs; cases hs
 ·rw [Go.getD_set_ne true e] at hs ⊢
  rwa [Go.getD_set_ne true hne]
variable {s : Nat} {A B : World → Prop}
theorem takeA {i : Nat} {oi : Oper} {v : Value} {fuel : Nat} {listed : Array Bool} {a : Act} {w : World} (hi : ops[i]? = some oi) (hne : (i == s) = false)
  (hs : Region.noSelect ops = true) (hf : Region.free md ops listed i = true) (hr : (Region.ready md ops listed).contains i = true)
  (hQ : ∀ c a w, Q (.panic c) (a.put oi.dst v) w → Q (.panic c) a w) (hy : YieldsIf P ops A oi v a) (hG : tE s A B listed w)
  (h : uE P md ops Q (tE s A B) fuel (listed.setIfInBounds i true) (a.put oi.dst v) w) : uE P md ops Q (tE s A B) (fuel + 1) listed a w :=
 oW (S := A) (U := fun _ => True) hi (Region.noSelect_spec hs) hQ (fun _ _ _ _ _ _ => trivial) (fun _ _ _ h => h.1) (fun _ _ _ _ h => until_set h)
  (fun _ _ _ _ _ _ _ h => mF (by simpa using hne) h) fuel listed a w (Region.free_spec hi hf) (by simpa using hr) trivial hy hG h
theorem takeB {i : Nat} {oi : Oper} {v : Value} {fuel : Nat} {listed : Array Bool} {a : Act} {w : World} (hi : ops[i]? = some oi) (hne : (i == s) = false)
  (hw : (match ops[s]? with | some os => os.after.any fun e => Region.binds md e && (e.on == i) | none => false) = true) (hun : listed.getD s true = false)
  (hs : Region.noSelect ops = true) (hf : Region.free md ops listed i = true) (hr : (Region.ready md ops listed).contains i = true)
  (hQ : ∀ c a w, Q (.panic c) (a.put oi.dst v) w → Q (.panic c) a w) (hy : YieldsIf P ops (fun w => A w ∧ B w) oi v a) (hG : tE s A B listed w)
  (h : uE P md ops Q (tE s A B) fuel (listed.setIfInBounds i true) (a.put oi.dst v) w) : uE P md ops Q (tE s A B) (fuel + 1) listed a w := by
 refine oW (S := fun w => A w ∧ B w) (U := fun l => l.getD s true = false) hi (Region.noSelect_spec hs) hQ (fun l j hu hir hj hji => ?_) (fun l w hu h => ⟨h.1, h.2 hu⟩) (fun _ _ _ _ h => until_set h)
  (fun _ _ _ _ _ _ _ h => mF (by simpa using hne) h) fuel listed a w (Region.free_spec hi hf) (by simpa using hr) hun hy hG h
 by_cases e : j = s
 ·subst e
  exfalso
  obtain ⟨hjun, oj, hoj, hall⟩ := mem_ready.1 hj
  rw [hoj] at hw
  simp only [Array.any_eq_true, Bool.and_eq_true, beq_iff_eq] at hw
  obtain ⟨k, hk, hb, he⟩ := hw
  have h1 := hall _ (Array.getElem_mem hk) hb
  have h0 := (mem_ready.1 hir).1
  rw [he] at h1
  rcases Nat.lt_or_ge i l.size with h' | h'
  ·simp [h'] at h0 h1; rw [h0] at h1; cases h1
  ·simp [Array.getElem?_eq_none h'] at h1
 ·rw [Go.getD_set_ne true e]; exact hu
theorem doneG {listed : Array Bool} {a : Act} {w : World} (hr : Region.ready md ops listed = []) (h : Q .normal a w) : ∀ fuel, uE P md ops Q G fuel listed a w
 | 0 => ⟨hr, h⟩
 | _ + 1 => ⟨fun _ => h, by rw [hr]; simp⟩
theorem oneG {i : Nat} {o : Oper} {fuel : Nat} {listed : Array Bool} {a : Act} {w : World} (hr : Region.ready md ops listed = [i]) (ho : ops[i]? = some o)
  (h : ∀ K' : Act → World → Prop, Shut (∀ a w, G (listed.setIfInBounds i true) w → uE P md ops Q G fuel (listed.setIfInBounds i true) a w → K' a w) → if Region.wanted o (yielded ops a.tmps) = true then Oper.wp P o a w K' Q else K' (a.put o.dst undef) w) :
  uE P md ops Q G (fuel + 1) listed a w := by
 refine ⟨fun h0 => (by rw [hr] at h0; cases h0), fun j hj => ?_⟩
 rw [hr] at hj
 have : j = i := by simpa using hj
 subst this
 exact wpOp_step ho (fun K' hK => h K' (fun a w hG hW => hK a w ⟨hG, hW⟩))
theorem uM {id : Nat} {a : Act} {w : World} (hm : P.follows .mixedOrders = true)
  (h : uE P .any ops Q G ops.size (Array.replicate ops.size false) a w.drew) : (Code.region id ops true).wp P Q a w :=
 wp_region_any hm (kN _ _ _ _ h)
end
theorem takeC {P : Program} {md : Region.Mode} {ops : Array Oper} {Q : Exit → Act → World → Prop} {s : Nat} {A B : World → Prop} {i : Nat} {oi : Oper} {v : Value} {fuel : Nat} {listed : Array Bool} {a : Act} {w : World} (hi : ops[i]? = some oi) (hne : (i == s) = false) (hy : YieldsIf P ops A oi v a) (hG : tE s A B listed w)
    (h : uE P md ops Q (tE s A B) fuel (listed.setIfInBounds i true) (a.put oi.dst v) w)
    (hs : Region.noSelect ops = true := by kernel_rfl) (hf : Region.free md ops listed i = true := by kernel_rfl) (hr : (Region.ready md ops listed).contains i = true := by kernel_rfl)
    (hQ : ∀ c a w, Q (.panic c) (a.put oi.dst v) w → Q (.panic c) a w := by exact fun _ _ _ h => h) : uE P md ops Q (tE s A B) (fuel + 1) listed a w := takeA hi hne hs hf hr hQ hy hG h
theorem takeD {P : Program} {md : Region.Mode} {ops : Array Oper} {Q : Exit → Act → World → Prop} {s : Nat} {A B : World → Prop} {i : Nat} {oi : Oper} {v : Value} {fuel : Nat} {listed : Array Bool} {a : Act} {w : World} (hi : ops[i]? = some oi) (hne : (i == s) = false) (hy : YieldsIf P ops (fun w => A w ∧ B w) oi v a) (hG : tE s A B listed w)
    (h : uE P md ops Q (tE s A B) fuel (listed.setIfInBounds i true) (a.put oi.dst v) w)
    (hw : (match ops[s]? with | some os => os.after.any fun e => Region.binds md e && (e.on == i) | none => false) = true := by kernel_rfl) (hun : listed.getD s true = false := by rfl)
    (hs : Region.noSelect ops = true := by kernel_rfl) (hf : Region.free md ops listed i = true := by kernel_rfl) (hr : (Region.ready md ops listed).contains i = true := by kernel_rfl)
    (hQ : ∀ c a w, Q (.panic c) (a.put oi.dst v) w → Q (.panic c) a w := by exact fun _ _ _ h => h) : uE P md ops Q (tE s A B) (fuel + 1) listed a w := takeB hi hne hw hun hs hf hr hQ hy hG h
structure ElemN (P : Program) (t e : TypeId) (sz : Nat) (z : Value) (bytes : Nat) : Prop where
 ht : P.underlying t = some (.slice e)
 hi : (P.info? e).map (fun i => (i.zero, i.size, i.bytes)) = some (some z, sz, bytes)
 hz : z.cells.size = sz
 pos : 0 < sz
theorem ElemOk.toN {P : Program} {t e : TypeId} {z : Value} {bytes : Nat} (E : ElemOk P t e z bytes) : ElemN P t e 1 z bytes := ⟨E.ht, E.hi, E.hz, by decide⟩
structure RowS where
 base : Nat
 e : TypeId
 v : Value
 n : Nat
 xs : List Value
 sz : Nat
structure GrownBut (w w' : World) (F : Nat → Prop) : Prop where
 os : w'.os = w.os
 tape : w'.tape = w.tape
 output : w'.output = w.output
 size : w.heap.size ≤ w'.heap.size
 block : ∀ k, k < w.heap.size → ¬ F k → w'.heap[k]? = w.heap[k]?
theorem GrownBut.refl (w : World) (F : Nat → Prop) : GrownBut w w F := ⟨rfl, rfl, rfl, Nat.le_refl _, fun _ _ _ => rfl⟩
theorem GrownBut.step {w w' w'' : World} {F : Nat → Prop} {row : Option Nat} (h : GrownBut w w' F) (hg : w'.grownBy w'' row) (hr : ∀ k, row = some k → F k ∨ w.heap.size ≤ k) : GrownBut w w'' F :=
 ⟨hg.os.trans h.os, hg.tape.trans h.tape, hg.output.trans h.output, Nat.le_trans h.size hg.size, fun k hk hf => by
  refine (hg.block k (Nat.lt_of_lt_of_le hk h.size) fun e => ?_).trans (h.block k hk hf)
  rcases hr k e.symm with h | h
  ·exact hf h
  ·omega⟩
theorem GrownBut.grown {w0 w w' : World} {F : Nat → Prop} {row : Option Nat} (h : GrownBut w w' F) (h0 : w0.grownBy w row) (hF : ∀ k, F k → row = some k ∨ w0.heap.size ≤ k) : w0.grownBy w' row :=
 ⟨h.os.trans h0.os, h.tape.trans h0.tape, h.output.trans h0.output, Nat.le_trans h0.size h.size, fun k hk hne => by
  refine (h.block k (Nat.lt_of_lt_of_le hk h0.size) fun hf => ?_).trans (h0.block k hk hne)
  rcases hF k hf with e | e
  ·exact hne e.symm
  ·omega⟩
theorem GrownBut.cell {w w' : World} {F : Nat → Prop} (h : GrownBut w w' F) {p : Addr} {u : Value} (hc : w.cell? p = some u) (hf : ¬ F p.block) : w'.cell? p = some u :=
 (World.cell?_of_block (h.block p.block (World.block_lt_of_cell? w p hc) hf)).trans hc
theorem GrownBut.heap {w w' : World} {F : Nat → Prop} (h : GrownBut w w' F) {p : Nat} {o : Obj} (hc : w.heap[p]? = some o) (hf : ¬ F p) : w'.heap[p]? = some o :=
 (h.block p (zJ hc) hf).trans hc
structure Many (w0 : World) (F : Nat → Prop) (W : World) (rs : List RowS) (ls : List (Nat × Obj)) (ps : List (Nat × TypeId × List Value)) : Prop where
 own : ∀ (j : Nat) (r : RowS), rs[j]? = some r → W.ownsRow r.base r.e r.sz r.v r.n r.xs
 mine : ∀ (j : Nat) (r : RowS), rs[j]? = some r → ∀ k, r.v.ownBlock = some k → F k ∨ w0.heap.size ≤ k
 apart : ∀ (i j : Nat) (r s : RowS), i ≠ j → rs[i]? = some r → rs[j]? = some s → ∀ k, r.v.ownBlock = some k → s.v.ownBlock ≠ some k
 lit : ∀ p ∈ ls, W.heap[p.1]? = some p.2 ∧ (∀ (j : Nat) (r : RowS), rs[j]? = some r → r.v.ownBlock ≠ some p.1) ∧ w0.heap.size ≤ p.1
 pre : ∀ p ∈ ps, Arr W p.1 p.2.1 p.2.2 ∧ ∀ (j : Nat) (r : RowS), rs[j]? = some r → r.v.ownBlock = some p.1 → p.2.2 <+: r.xs ∧ r.e = p.2.1 ∧ r.sz = 1
 but : GrownBut w0 W F
section
variable {w0 W : World} {F : Nat → Prop} {rs : List RowS} {ls : List (Nat × Obj)} {ps : List (Nat × TypeId × List Value)}
theorem own_lt {w : World} {base e n sz : Nat} {v : Value} {xs : List Value} (h : w.ownsRow base e sz v n xs) {k : Nat} (hk : v.ownBlock = some k) : k < w.heap.size := (h.lt k hk).2
theorem zQ {w w' : World} {base e sz : Nat} {v : Value} {n : Nat} {xs : List Value} (h : w.ownsRow base e sz v n xs) (hg : w.grownBy w' none) : w'.ownsRow base e sz v n xs := by
 refine h.kept hg ?_
 rcases hv : v.ownBlock with _ | k
 ·exact .inl rfl
 ·exact .inr (by simp)
theorem Many.grow {W' : World} (h : Many w0 F W rs ls ps) (hg : W.grownBy W' none) : Many w0 F W' rs ls ps where
 own := fun j r hr => zQ (h.own j r hr) hg
 mine := h.mine
 apart := h.apart
 lit := fun p hp => ⟨zB (h.lit p hp).1 hg (by simp), (h.lit p hp).2⟩
 pre := fun p hp => ⟨(h.pre p hp).1.kept hg (by simp), (h.pre p hp).2⟩
 but := h.but.step hg (by simp)
theorem Many.drew (h : Many w0 F W rs ls ps) : Many w0 F W.drew rs ls ps := h.grow (zM W none)
theorem Many.alloc (h : Many w0 F W rs ls ps) (o : Obj) : Many w0 F (W.alloc o) rs ((W.heap.size, o) :: ls) ps where
 own := fun j r hr => (h.own j r hr).alloc o
 mine := h.mine
 apart := h.apart
 lit := fun p hp => by
  rcases List.mem_cons.1 hp with rfl | hp
  ·exact ⟨heap_alloc_new W o, fun j r hr e => (by have := own_lt (h.own j r hr) e; simp only at this; omega), h.but.size⟩
  ·exact ⟨zB (h.lit p hp).1 (World.grownBy_alloc W o none) (by simp), (h.lit p hp).2⟩
 pre := fun p hp => ⟨(h.pre p hp).1.kept (World.grownBy_alloc W o none) (by simp), (h.pre p hp).2⟩
 but := h.but.step (World.grownBy_alloc W o none) (by simp)
theorem mR {α : Type} {l : List α} {j i : Nat} {x r : α} (h : (l.set j x)[i]? = some r) : (i = j ∧ r = x ∧ j < l.length) ∨ (i ≠ j ∧ l[i]? = some r) := by
 by_cases e : i = j
 ·subst e
  left
  rw [List.getElem?_set] at h
  simp only [if_true] at h
  split at h
  ·exact ⟨rfl, (Option.some.inj h).symm, by assumption⟩
  ·cases h
 ·exact .inr ⟨e, by rwa [List.getElem?_set_ne (Ne.symm e)] at h⟩
theorem Many.append {W' : World} (h : Many w0 F W rs ls ps) {j : Nat} {r : RowS} (hr : rs[j]? = some r) {v' : Value} {n' : Nat} {us : List Value}
  (ho : W'.ownsRow r.base r.e r.sz v' n' (r.xs ++ us)) (hg : W.grownBy W' r.v.ownBlock) (hm : oD W W' r.v v') : Many w0 F W' (rs.set j ⟨r.base, r.e, v', n', r.xs ++ us, r.sz⟩) ls ps where
 own := fun i s hs => by
  rcases mR hs with ⟨rfl, rfl, _⟩ | ⟨hne, hs⟩
  ·exact ho
  ·refine (h.own i s hs).kept hg ?_
   rcases hb : s.v.ownBlock with _ | k
   ·exact .inl rfl
   ·exact .inr fun e => h.apart i j s r hne hs hr k hb (by rw [← e])
 mine := fun i s hs k hk => by
  rcases mR hs with ⟨rfl, rfl, _⟩ | ⟨hne, hs⟩
  ·rcases hm with hm | ⟨_, hm⟩
   ·exact h.mine i r hr k (hm ▸ hk)
   ·have := hm k hk
    have := h.but.size
    exact .inr (by omega)
  ·exact h.mine i s hs k hk
 apart := fun i i' s s' hne hs hs' k hk => by
  rcases mR hs with ⟨rfl, rfl, _⟩ | ⟨h1, hs2⟩
  ·rcases mR hs' with ⟨rfl, _, _⟩ | ⟨h2, hs'⟩
   ·exact absurd rfl hne
   ·rcases hm with hm | ⟨_, hm⟩
    ·exact h.apart i i' r s' hne hr hs' k (hm ▸ hk)
    ·intro e
     have h3 := hm k hk
     have h4 := own_lt (h.own i' s' hs') e
     omega
  ·rcases mR hs' with ⟨rfl, rfl, _⟩ | ⟨h2, hs'⟩
   ·rcases hm with hm | ⟨_, hm⟩
    ·exact fun e => h.apart i i' s r hne hs2 hr k hk (by rw [← hm]; exact e)
    ·intro e
     have h3 := hm k e
     have h4 := own_lt (h.own i s hs2) hk
     omega
   ·exact h.apart i i' s s' hne hs2 hs' k hk
 lit := fun p hp => by
  obtain ⟨h1, h2, hlow⟩ := h.lit p hp
  refine ⟨zB h1 hg (h2 j r hr), fun i s hs e => ?_, hlow⟩
  rcases mR hs with ⟨rfl, rfl, _⟩ | ⟨hne, hs⟩
  ·rcases hm with hm | ⟨_, hm⟩
   ·exact h2 i r hr (hm ▸ e)
   ·have h3 := hm _ e
    have h4 := zJ h1
    omega
  ·exact h2 i s hs e
 pre := fun p hp => by
  obtain ⟨h1, h2⟩ := h.pre p hp
  have harr : Arr W' p.1 p.2.1 p.2.2 := by
   by_cases e : r.v.ownBlock = some p.1
   ·rcases hm with hm | ⟨hm, _⟩
    ·obtain ⟨h3, h4, h5⟩ := h2 j r hr e
     rw [h5] at ho
     rcases ho.2 with ⟨hv, _⟩ | ⟨g, cap, cur, hv, _⟩
     ·rw [hv] at hm; rw [e] at hm; simp [Value.ownBlock] at hm
     ·subst hv
      have hgp : g = p.1 := by rw [e] at hm; simpa [Value.ownBlock] using hm
      subst hgp
      have ha := Arr.of_owns ho
      rw [h4] at ha
      obtain ⟨q, hq⟩ := h3
      rw [← hq, List.append_assoc] at ha
      exact ha.front
    ·exact h1.kept hm (by simp)
   ·exact h1.kept hg e
  refine ⟨harr, fun i s hs e => ?_⟩
  rcases mR hs with ⟨rfl, rfl, _⟩ | ⟨hne, hs⟩
  ·rcases hm with hm | ⟨_, hm⟩
   ·obtain ⟨h3, h4, h5⟩ := h2 i r hr (hm ▸ e)
    exact ⟨h3.trans (List.prefix_append _ _), h4, h5⟩
   ·have h3 := hm _ e
    have h4 := h1.lt
    omega
  ·exact h2 i s hs e
 but := h.but.step hg (h.mine j r hr)
end
theorem Many.two {w : World} {r s : RowS} (hr : w.ownsRow r.base r.e r.sz r.v r.n r.xs) (hs : w.ownsRow s.base s.e s.sz s.v s.n s.xs) (hne : ∀ k, r.v.ownBlock = some k → s.v.ownBlock ≠ some k) :
  Many w (fun k => r.v.ownBlock = some k ∨ s.v.ownBlock = some k) w [r, s] [] [] where
 own := fun j x hx => by
  match j, hx with
  | 0, hx => simp at hx; subst hx; exact hr
  | 1, hx => simp at hx; subst hx; exact hs
 mine := fun j x hx k hk => by
  match j, hx with
  | 0, hx => simp at hx; subst hx; exact .inl (.inl hk)
  | 1, hx => simp at hx; subst hx; exact .inl (.inr hk)
 apart := fun i j x y hij hx hy k hk => by
  match i, j, hij, hx, hy with
  | 0, 1, _, hx, hy => simp at hx hy; subst hx; subst hy; exact hne k hk
  | 1, 0, _, hx, hy => simp at hx hy; subst hx; subst hy; exact fun e => hne k e hk
  | 0, 0, h, _, _ => exact absurd rfl h
  | 1, 1, h, _, _ => exact absurd rfl h
 lit := fun p hp => by simp at hp
 pre := fun p hp => by simp at hp
 but := GrownBut.refl _ _
end Go.Proofs.Ytjfdomfendbhfaa
