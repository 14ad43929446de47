/- Part 36 of the proof: Bfs. -/
import Derived.Test.YtgbfaggnnfoamaaZh35
set_option linter.unusedVariables false
set_option linter.unusedSimpArgs false
namespace Go.Proofs.Ytgbfaggnnfoamaa
section
variable {α : Type} (nxt : α → Nat → α) (k : Nat) (s0 : α)
def pZ (x : α) (w : List Nat) : α := w.foldl nxt x
structure BfsI (l : List α) (i a : Nat) : Prop where
 nd : l.Nodup
 hd : l[0]? = some s0
 le : i ≤ l.length
 cl : ∀ j x, j < i → l[j]? = some x → ∀ b, b < k → nxt x b ∈ l
 row : ∀ x, l[i]? = some x → ∀ b, b < a → b < k → nxt x b ∈ l
 re : ∀ x ∈ l, ∃ w, xQ k w ∧ pZ nxt s0 w = x
variable {nxt k s0}
theorem BfsI.start : BfsI nxt k s0 [s0] 0 0 :=
 ⟨by simp, rfl, by simp, fun j x h => by omega, fun x _ b hb => by omega, fun x hx => ⟨[], fun a ha => by simp at ha, by simp at hx; exact hx.symm⟩⟩
theorem BfsI.old {l : List α} {i a : Nat} (h : BfsI nxt k s0 l i a) {x : α} (hx : l[i]? = some x) (hm : nxt x a ∈ l) : BfsI nxt k s0 l i (a + 1) :=
 ⟨h.nd, h.hd, h.le, h.cl, fun y hy b hb hbk => by
  rcases Nat.lt_succ_iff_lt_or_eq.1 hb with hb | rfl
  ·exact h.row y hy b hb hbk
  ·rw [hx] at hy; rw [← Option.some.inj hy]; exact hm, h.re⟩
theorem BfsI.new {l : List α} {i a : Nat} (h : BfsI nxt k s0 l i a) (ha : a < k) {x : α} (hx : l[i]? = some x) (hm : nxt x a ∉ l) : BfsI nxt k s0 (l ++ [nxt x a]) i (a + 1) := by
 have hi : i < l.length := (List.getElem?_eq_some_iff.1 hx).1
 have hget : ∀ j, j < l.length → (l ++ [nxt x a])[j]? = l[j]? := fun j hj => List.getElem?_append_left hj
 refine ⟨?_, ?_, by simp; omega, fun j y hj hy b hb => ?_, fun y hy b hb hbk => ?_, fun y hy => ?_⟩
 ·rw [List.nodup_append]
  exact ⟨h.nd, by simp, fun y hy z hz e => by simp at hz; subst hz; subst e; exact hm hy⟩
 ·rw [hget 0 (by omega)]; exact h.hd
 ·rw [hget j (by omega)] at hy
  exact List.mem_append_left _ (h.cl j y hj hy b hb)
 ·rw [hget i hi] at hy
  rcases Nat.lt_succ_iff_lt_or_eq.1 hb with hb | rfl
  ·exact List.mem_append_left _ (h.row y hy b hb hbk)
  ·rw [hx] at hy; rw [← Option.some.inj hy]; simp
 ·rcases List.mem_append.1 hy with hy | hy
  ·exact h.re y hy
  ·simp at hy
   subst hy
   obtain ⟨w, hw, e⟩ := h.re x (List.mem_of_getElem? hx)
   refine ⟨w ++ [a], fun b hb => ?_, ?_⟩
   ·rcases List.mem_append.1 hb with hb | hb
    ·exact hw b hb
    ·simp at hb; omega
   ·simp [pZ] at e ⊢; rw [e]
theorem BfsI.next {l : List α} {i : Nat} (h : BfsI nxt k s0 l i k) (hi : i < l.length) : BfsI nxt k s0 l (i + 1) 0 :=
 ⟨h.nd, h.hd, hi, fun j x hj hx b hb => by
  rcases Nat.lt_succ_iff_lt_or_eq.1 hj with hj | rfl
  ·exact h.cl j x hj hx b hb
  ·exact h.row x hx b hb hb, fun x _ b hb => by omega, h.re⟩
structure BfsD (nxt : α → Nat → α) (k : Nat) (s0 : α) (l : List α) : Prop where
 nd : l.Nodup
 hd : l[0]? = some s0
 cl : ∀ x ∈ l, ∀ b, b < k → nxt x b ∈ l
 re : ∀ x ∈ l, ∃ w, xQ k w ∧ pZ nxt s0 w = x
theorem BfsI.done {l : List α} {i : Nat} (h : BfsI nxt k s0 l i 0) (hi : ¬ i < l.length) : BfsD nxt k s0 l :=
 ⟨h.nd, h.hd, fun x hx b hb => by
  obtain ⟨j, hj, e⟩ := List.getElem_of_mem hx
  exact h.cl j x (by omega) (by rw [List.getElem?_eq_getElem hj, e]) b hb, h.re⟩
theorem BfsD.all {l : List α} (h : BfsD nxt k s0 l) : ∀ (w : List Nat) {x : α}, x ∈ l → xQ k w → pZ nxt x w ∈ l
 | [], x, hx, _ => hx
 | a :: w, x, hx, hw => BfsD.all h w (h.cl x hx a (hw a (by simp))) (fun b hb => hw b (List.mem_cons_of_mem _ hb))
theorem BfsD.mem0 {l : List α} (h : BfsD nxt k s0 l) : s0 ∈ l := List.mem_of_getElem? h.hd
def uY {α : Type} [BEq α] (nxt : α → Nat → α) (k : Nat) (l : List α) (x : α) : List Int := (List.range k).map fun a => ((l.idxOf (nxt x a) : Nat) : Int)
def bfsA {α : Type} [BEq α] (nxt : α → Nat → α) (k : Nat) (fin : α → Bool) (l : List α) : DfaV := ⟨k, 0, l.map fin, l.map (uY nxt k l)⟩
theorem bfsRow_more [BEq α] [LawfulBEq α] {l m : List α} {x : α} (h : ∀ b, b < k → nxt x b ∈ l) : uY nxt k (l ++ m) x = uY nxt k l x := by
 refine List.map_congr_left fun a ha => ?_
 rw [List.idxOf_append, if_pos (h a (List.mem_range.1 ha))]
variable {fin : α → Bool}
theorem pW [BEq α] {l : List α} {i : Nat} (hi : i < l.length) : (bfsA nxt k fin l).next.getD i [] = uY nxt k l l[i] := by
 show (l.map (uY nxt k l)).getD i [] = _
 rw [zI (by simpa using hi)]; simp
theorem bfsA_nx [BEq α] {l : List α} {i a : Nat} (hi : i < l.length) (ha : a < k) : nx (bfsA nxt k fin l) i a = l.idxOf (nxt l[i] a) := by
 unfold nx entN ent
 rw [pW hi, uY, zI (by simpa using ha)]
 simp
theorem BfsD.vd [BEq α] [LawfulBEq α] {l : List α} (h : BfsD nxt k s0 l) (h1 : 1 ≤ k) (h6 : k ≤ 6) (hl : l.length ≤ 4194304) : VD (bfsA nxt k fin l) l.length k := by
 have h0 : 0 < l.length := (List.getElem?_eq_some_iff.1 h.hd).1
 have hr : ∀ q, q < l.length → ((bfsA nxt k fin l).next.getD q []).length = k := fun q hq => by rw [pW hq]; simp [uY]
 refine ⟨rfl, h1, h6, by simp [bfsA], h0, hl, by simp [bfsA], by show (0 : Int) ≤ 0; omega, by show (0 : Int) < _; omega, hr, fun q a hq ha => ?_, fun q a hq ha => ?_⟩
 ·unfold ent
  rw [pW hq, uY, zI (by simpa using ha)]
  simp
 ·unfold ent
  rw [pW hq, uY, zI (by simpa using ha)]
  simp only [List.getElem_map, List.getElem_range]
  have := List.idxOf_lt_length_of_mem (h.cl l[q] (List.getElem_mem hq) a ha)
  omega
theorem BfsD.run [BEq α] [LawfulBEq α] {l : List α} (h : BfsD nxt k s0 l) : ∀ (w : List Nat) {i : Nat} (hi : i < l.length), xQ k w → Go.Proofs.Ytgbfaggnnfoamaa.run (bfsA nxt k fin l) i w = l.idxOf (pZ nxt l[i] w)
 | [], i, hi, _ => by
  show i = l.idxOf l[i]
  exact (h.nd.idxOf_getElem i hi).symm
 | a :: w, i, hi, hw => by
  have ha := hw a (by simp)
  have hm := h.cl l[i] (List.getElem_mem hi) a ha
  have hj := List.idxOf_lt_length_of_mem hm
  show Go.Proofs.Ytgbfaggnnfoamaa.run (bfsA nxt k fin l) (nx (bfsA nxt k fin l) i a) w = _
  rw [bfsA_nx hi ha, BfsD.run h w hj (fun b hb => hw b (List.mem_cons_of_mem _ hb)), List.getElem_idxOf]
  rfl
theorem BfsD.acc [BEq α] [LawfulBEq α] {l : List α} (h : BfsD nxt k s0 l) {w : List Nat} (hw : xQ k w) : Go.Proofs.Ytgbfaggnnfoamaa.acc (bfsA nxt k fin l) (st0 (bfsA nxt k fin l)) w = fin (pZ nxt s0 w) := by
 obtain ⟨h0, e⟩ := List.getElem?_eq_some_iff.1 h.hd
 show (l.map fin).getD (Go.Proofs.Ytgbfaggnnfoamaa.run (bfsA nxt k fin l) 0 w) false = _
 rw [h.run w h0 hw, e]
 have hm := h.all w h.mem0 hw
 have hj := List.idxOf_lt_length_of_mem hm
 rw [zI (by simpa using hj)]
 simp [List.getElem_map]
end
theorem mQ : ∀ (n : Nat) (l : List (List Bool)), l.Nodup → (∀ x ∈ l, x.length = n) → l.length ≤ 2 ^ n
 | 0, l, hn, hl => by
  have : l ⊆ [[]] := fun x hx => by simp [List.eq_nil_of_length_eq_zero (hl x hx)]
  simpa using hn.length_le_of_subset this
 | n + 1, l, hn, hl => by
  have key : ∀ b : Bool, (l.filter fun x => x.headD false == b).length ≤ 2 ^ n := fun b => by
   have h0 : ∀ x ∈ l.filter (fun x => x.headD false == b), x = b :: x.tail ∧ x.length = n + 1 := fun x hx => by
    obtain ⟨h1, h2⟩ := List.mem_filter.1 hx
    have h3 := hl x h1
    cases x with
    | nil => simp at h3
    | cons c x => simp at h2; exact ⟨by rw [h2]; rfl, h3⟩
   have h1 := mQ n ((l.filter fun x => x.headD false == b).map List.tail) (by
    rw [List.Nodup, List.pairwise_map]
    refine List.Pairwise.imp_of_mem ?_ (hn.filter _)
    intro x y hx hy hne e
    exact hne (by rw [(h0 x hx).1, (h0 y hy).1, e])) (fun x hx => by
    obtain ⟨y, hy, rfl⟩ := List.mem_map.1 hx
    rw [List.length_tail, (h0 y hy).2]; omega)
   rwa [List.length_map] at h1
  have h1 := key true
  have h2 := key false
  have h3 : ∀ l : List (List Bool), l.length = (l.filter fun x => x.headD false == true).length + (l.filter fun x => x.headD false == false).length := fun l => by
   induction l with
   | nil => rfl
   | cons x l ih =>
    rw [List.filter_cons, List.filter_cons]
    generalize x.headD false = b
    cases b
    ·rw [if_neg (by decide), if_pos (by decide), List.length_cons, List.length_cons]; omega
    ·rw [if_pos (by decide), if_neg (by decide), List.length_cons, List.length_cons]; omega
  have := h3 l
  rw [Nat.pow_succ]; omega
end Go.Proofs.Ytgbfaggnnfoamaa
