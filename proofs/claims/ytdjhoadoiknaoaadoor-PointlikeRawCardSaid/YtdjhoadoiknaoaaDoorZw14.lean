/- Part 14 of the proof: Span. -/
import Derived.Test.YtdjhoadoiknaoaaDoorZw13
import Derived.Deep.DeepCutAuto
set_option linter.unusedVariables false
set_option linter.unusedSimpArgs false
namespace Go.Proofs.YtdjhoadoiknaoaaDoor
open Go.RowKit
structure Sp (w0 w : World) (bi bm g n : Nat) (mv : Value) (bs : List Bool) (made : List Nat) : Prop where
  box1 : w.heap[bi]? = some (.cells #[.slice (some ⟨g, 0, none⟩) n n] 25 (0, 0))
  box2 : w.heap[bm]? = some (.cells #[mv] 22 (0, 0))
  own : w.ownsRow w0.heap.size 3 1 mv made.length (nats made)
  shape : ∃ sa sc, mv = .slice sa made.length sc
  arr : Arr w g 4 (bls bs)
  len : bs.length = n
  cnt : made.length = bs.count true
  mem : ∀ x, x < n → (bs.getD x false = true ↔ x ∈ made)
  lt : ∀ x ∈ made, x < n
  lo : w0.heap.size ≤ bi ∧ w0.heap.size ≤ bm ∧ w0.heap.size ≤ g
  fr : w0.grownBy w none
theorem Sp.made_le {w0 w : World} {bi bm g n : Nat} {mv : Value} {bs : List Bool} {made : List Nat} (h : Sp w0 w bi bm g n mv bs made) : made.length ≤ n := by
  rw [h.cnt, ← h.len]; exact List.count_le_length
structure Keep (w w' : World) (bm g : Nat) (mv mv' : Value) : Prop where
  size : w.heap.size ≤ w'.heap.size
  k1 : ∀ k, k < w.heap.size → k ≠ g → k ≠ bm → mv.ownBlock ≠ some k → w'.heap[k]? = w.heap[k]?
  k2 : mv'.ownBlock = mv.ownBlock ∨ ((∀ k, k < w.heap.size → k ≠ g → k ≠ bm → w'.heap[k]? = w.heap[k]?) ∧ ∀ k, mv'.ownBlock = some k → w.heap.size ≤ k)
def addTo (made : List Nat) (x : Nat) : List Nat := if x ∈ made then made else made ++ [x]
theorem addTo_mem {made : List Nat} {x y : Nat} : y ∈ addTo made x ↔ y ∈ made ∨ y = x := by
  unfold addTo
  split
  · constructor
    · exact .inl
    · rintro (h | rfl)
      · exact h
      · assumption
  · simp
theorem addTo_prefix (made : List Nat) (x : Nat) : ∃ r, addTo made x = made ++ r := by
  unfold addTo
  split
  · exact ⟨[], by simp⟩
  · exact ⟨[x], rfl⟩
def Added (w0 w : World) (bi bm g n : Nat) (mv : Value) (made : List Nat) (x : Nat) (e : Ending) (w' : World) : Prop :=
  e = .returned (.tuple #[]) ∧ ∃ bs' mv', Sp w0 w' bi bm g n mv' bs' (addTo made x) ∧ Keep w w' bm g mv mv'
theorem count_set_true {bs : List Bool} {x : Nat} (hx : x < bs.length) (h : bs.getD x false = false) : (bs.set x true).count true = bs.count true + 1 := by
  rw [List.count_set hx]
  have : bs[x] = false := by simpa [List.getD, List.getElem?_eq_getElem hx] using h
  simp [this]
theorem Sp.set {w0 w w3 : World} {bi bm g n x : Nat} {mv : Value} {bs : List Bool} {made : List Nat} {sa : Option Addr} {sc : Nat} (h : Sp w0 w bi bm g n mv bs made) (hx : x < n) (hb : bs.getD x false = false)
    (h1 : w3.heap[bi]? = some (.cells #[.slice (some ⟨g, 0, none⟩) n n] 25 (0, 0))) (h2 : w3.heap[bm]? = some (.cells #[.slice sa (made.length + 1) sc] 22 (0, 0))) (h3 : w3.ownsRow w0.heap.size 3 1 (.slice sa (made.length + 1) sc) (made.length + 1) (nats made ++ [.int .i64 (x : Int)]))
    (h4 : Arr w3 g 4 (bls (bs.set x true))) (h5 : w0.grownBy w3 none) (h6 : Keep w w3 bm g mv (.slice sa (made.length + 1) sc)) : Added w0 w bi bm g n mv made x (.returned (.tuple #[])) w3 := by
  have hxm : ¬ x ∈ made := fun hm => by rw [(h.mem x hx).2 hm] at hb; cases hb
  refine ⟨rfl, bs.set x true, _, ⟨h1, h2, ?_, ?_, h4, by rw [List.length_set]; exact h.len, ?_, fun y hy => ?_, fun y hy => ?_, h.lo, h5⟩, h6⟩
  · rw [addTo, if_neg hxm, List.length_append, nats_snoc]; exact h3
  · rw [addTo, if_neg hxm, List.length_append]; exact ⟨_, _, rfl⟩
  · rw [addTo, if_neg hxm, List.length_append, count_set_true (by rw [h.len]; exact hx) hb, h.cnt]; rfl
  · rw [addTo_mem]
    by_cases e : x = y
    · subst e
      rw [getD_set_eq _ _ _ _ (by rw [h.len]; exact hx)]; simp
    · rw [getD_set_ne _ _ _ _ _ e, h.mem y hy]
      exact ⟨.inl, fun hh => hh.elim id (fun e' => absurd e'.symm e)⟩
  · rcases addTo_mem.1 hy with hy | rfl
    · exact h.lt y hy
    · exact hx
set_option maxHeartbeats 400000 in
theorem add_any (w0 w : World) (bi bm g n x : Nat) (mv : Value) (bs : List Bool) (made : List Nat) (hx : x < n) (hn : n ≤ 400) (h : Sp w0 w bi bm g n mv bs made) :
    Calls Tryd.prog 112 #[.int .i64 (x : Int), .pointer (some ⟨bi, 0, none⟩), .pointer (some ⟨bm, 0, none⟩)] w (Added w0 w bi bm g n mv made x) := by
  have H := Lib.hid h
  have hml := h.made_le
  obtain ⟨sa, sc, rfl⟩ := h.shape
  have ci := cell_block h.box1 0 (by simp)
  have cx := h.arr.bool x (by rw [h.len]; exact hx)
  have fx := h.arr.frozen x
  simp only [List.getElem_toArray, List.getElem_cons_zero] at ci
  have hx' : (x : Int) < n := by omega
  clear h
  cases hb : bs.getD x false
  · rw [hb] at cx
    have HB := Lib.hid hb; clear hb
    have hset := H.out.arr.bool_set x (by rw [H.out.len]; exact hx) true
    have hgs1 := grownBy_setCell w ⟨g, x, none⟩ (.bool true)
    go_enter Tryd.func112, Tryd.ntmps112
    go_upto_region 2 with fail
    generalize hW : w.setCell ⟨g, x, none⟩ (.bool true) = w1 at hset hgs1
    have HW := Lib.hid hW
    have hlo := H.out.lo
    have hg1 := grown_far H.out.fr hgs1 (by simp; omega)
    have hb2 := H.out.box2
    have hown := H.out.own
    have hb2' := block_kept hb2 hgs1 (fun e => by
      have := Option.some.inj e
      exact (H.out.arr.type_ne hb2 (by decide)) this)
    have hb1' := block_kept H.out.box1 hgs1 (fun e => (H.out.arr.type_ne H.out.box1 (by decide)) (Option.some.inj e))
    have hown' := hown.kept hgs1 (.inr (fun e => by
      obtain ⟨cur, rest, hh, _⟩ := H.out.arr
      exact owns_ne hown hh (by decide) e))
    have cm := cell_block hb2' 0 (by simp)
    simp only [List.getElem_toArray, List.getElem_cons_zero] at cm
    have HB1 := Lib.hid hb1'; have HB2 := Lib.hid hb2'; have HSET := Lib.hid hset; have HGS := Lib.hid hgs1
    clear hW ci cx fx hset hgs1 hb2 hown hb1' hb2'
    go_wp2_with (at_builtin; refine app1s rfl _ _ _ rfl elem_int w0.heap.size _ made.length (nats made) rfl hown' _ rfl rfl ?c1 ?c2 ?c3 ?_)
    case c1 => unfold maxLen; omega
    case c2 => omega
    case c3 => exact hg1.size
    intro sa' sc' w3 hown3 hg3 hlt3 hmv
    have hne2 := owns_ne hown' HB2.out (by decide)
    have hb23 := block_kept HB2.out hg3 hne2
    have hf3 := frozen_block hb23 0
    have hc3 := cell_block hb23 0 (by simp)
    simp only [List.getElem_toArray, List.getElem_cons_zero] at hc3
    have hb13 := block_kept HB1.out hg3 (owns_ne hown' HB1.out (by decide))
    have hset3 := HSET.out.kept hg3 (by
      obtain ⟨cur, rest, hh, _⟩ := HSET.out
      exact owns_ne hown' hh (by decide))
    have hg03 := grown_far hg1 hg3 (fun k e => (hown'.lt k e).1)
    have H13 := Lib.hid hb13; have H23 := Lib.hid hb23; have HS3 := Lib.hid hset3; have HO3 := Lib.hid hown3; have HG3 := Lib.hid hg3; have HMV := Lib.hid hmv
    clear hb13 hb23 hset3 hown3 hg3 hown' cm hmv
    go_wp2
    go_end0
    have hgs := grownBy_setCell w3 ⟨bm, 0, none⟩ (.slice sa' (made.length + 1) sc')
    have hz1 := HGS.out.size
    refine H.out.set hx HB.out (sa := sa') (sc := sc') ?_ (heap_setCell_same w3 bm 0 _ _ _ H23.out) ?_ ?_ (grown_far hg03 hgs (by simp; omega)) ⟨Nat.le_trans hz1 (Nat.le_trans HG3.out.size hgs.size), fun k hk h1 h2 h3 => ?_, ?_⟩
    · refine block_kept H13.out hgs (fun e => ?_)
      have e' := Option.some.inj e
      have h1 := H13.out
      rw [← e', H23.out] at h1
      simp at h1
    · exact HO3.out.kept hgs (.inr (owns_ne HO3.out H23.out (by decide)))
    · exact HS3.out.kept hgs (fun e => (HS3.out.type_ne H23.out (by decide)) (Option.some.inj e).symm)
    · exact (hgs.block k (by have := HG3.out.size; omega) (fun e => h2 (Option.some.inj e))).trans ((HG3.out.block k (by omega) (fun e => h3 e.symm)).trans (HGS.out.block k hk (fun e => h1 (Option.some.inj e))))
    · rcases HMV.out with e | ⟨e1, e2⟩
      · exact .inl e
      · exact .inr ⟨fun k hk h1 h2 => (hgs.block k (by have := HG3.out.size; omega) (fun e => h2 (Option.some.inj e))).trans ((e1.block k (by omega) (by simp)).trans (HGS.out.block k hk (fun e => h1 (Option.some.inj e)))), fun k hk => Nat.le_trans hz1 (e2 k hk)⟩
  · rw [hb] at cx
    have HB := Lib.hid hb; clear hb
    go_enter Tryd.func112, Tryd.ntmps112
    go_wp2
    go_end0
    have hat : addTo made x = made := by rw [addTo, if_pos ((H.out.mem x hx).1 HB.out)]
    refine ⟨rfl, bs, _, by rw [hat]; exact H.out, Nat.le_refl _, fun _ _ _ _ _ => rfl, .inl rfl⟩
theorem owns_of_block {w w' : World} {base e size : Nat} {v : Value} {n : Nat} {xs : List Value} (h : w.ownsRow base e size v n xs) (hb : ∀ k, v.ownBlock = some k → w'.heap[k]? = w.heap[k]?) : w'.ownsRow base e size v n xs := by
  refine ⟨h.1, ?_⟩
  rcases h.2 with h2 | ⟨g, cap, cur, rfl, h2, h3, h4⟩
  · exact .inl h2
  · exact .inr ⟨g, cap, cur, rfl, h2, (hb g rfl).trans h3, h4⟩
theorem Arr.of_block {w w' : World} {g : Nat} {e : TypeId} {xs : List Value} (h : Arr w g e xs) (hb : w'.heap[g]? = w.heap[g]?) : Arr w' g e xs := by
  obtain ⟨cur, rest, h, hc⟩ := h
  exact ⟨cur, rest, hb.trans h, hc⟩
def Apart (v u : Value) : Prop := ∀ k, v.ownBlock = some k → u.ownBlock ≠ some k
theorem Keep.gens {w0 w w' : World} {bi bm g n base m : Nat} {mv mv' gv : Value} {bs : List Bool} {made : List Nat} {xs : List Value} (hk : Keep w w' bm g mv mv') (h : Sp w0 w bi bm g n mv bs made) (hg : w.ownsRow base 3 1 gv m xs) (ha : Apart gv mv) :
    w'.ownsRow base 3 1 gv m xs ∧ Apart gv mv' := by
  have hne1 : gv.ownBlock ≠ some g := by
    obtain ⟨cur, rest, hh, _⟩ := h.arr
    exact owns_ne hg hh (by decide)
  have hne2 : gv.ownBlock ≠ some bm := owns_ne hg h.box2 (by decide)
  refine ⟨owns_of_block hg (fun k e => hk.k1 k (hg.lt k e).2 (fun e' => hne1 (by rw [e, e'])) (fun e' => hne2 (by rw [e, e'])) (ha k e)), fun k e => ?_⟩
  rcases hk.k2 with h1 | ⟨_, h1⟩
  · rw [h1]; exact ha k e
  · intro e'
    have := h1 k e'
    have := (hg.lt k e).2
    omega
theorem Keep.pre {w0 w w' : World} {bi bm g n kb : Nat} {mv mv' : Value} {bs bs' : List Bool} {made made' pre : List Nat} (hk : Keep w w' bm g mv mv') (h : Sp w0 w bi bm g n mv bs made) (h' : Sp w0 w' bi bm g n mv' bs' made') (hp : ∃ r, made' = pre ++ r) (ha : Arr w kb 3 (nats pre)) : Arr w' kb 3 (nats pre) := by
  have hne1 : kb ≠ g := by
    rintro rfl
    obtain ⟨cur, rest, hh, _⟩ := h.arr
    exact (ha.type_ne hh (by decide)) rfl
  have hne2 : kb ≠ bm := ha.type_ne h.box2 (by decide)
  rcases hk.k2 with e | ⟨e, _⟩
  · by_cases hkb : mv.ownBlock = some kb
    · have hkb' := e.trans hkb
      obtain ⟨r, rfl⟩ := hp
      have ho := h'.own
      rcases ho.2 with ⟨rfl, _⟩ | ⟨g', cap', cur', rfl, _⟩
      · simp [Value.ownBlock] at hkb'
      · have eg : g' = kb := by simpa [Value.ownBlock] using hkb'
        subst eg
        have := Arr.of_owns ho
        rw [nats_append] at this
        exact this.front
    · exact ha.of_block (hk.k1 kb ha.lt hne1 hne2 hkb)
  · exact ha.of_block (e kb ha.lt hne1 hne2)
end Go.Proofs.YtdjhoadoiknaoaaDoor
