/- Part 26 of the proof: Half, App1. -/
import Derived.Test.YtdjhoadoiknaoaaDoorZq25
set_option linter.unusedVariables false
set_option linter.unusedSimpArgs false
namespace Go.Proofs.YtdjhoadoiknaoaaDoor
open Go.RowKit
structure OwnsT (base : Nat) (W : World) (hs : List Value) (t : List (List Int)) : Prop where
 len : hs.length = t.length
 own : ∀ i (h : i < hs.length) (h' : i < t.length), W.ownsRow base 3 1 hs[i] t[i].length (ints t[i])
 dis : ∀ i j (hi : i < hs.length) (hj : j < hs.length), i ≠ j → ∀ k, hs[i].ownBlock = some k → hs[j].ownBlock ≠ some k
section
variable {base : Nat} {W W' : World} {hs : List Value} {t : List (List Int)}
theorem OwnsT.nil : OwnsT base W [] [] := ⟨rfl, fun i h => by simp at h, fun i j h => by simp at h⟩
theorem OwnsT.rowsT (h : OwnsT base W hs t) : RowsT W.heap.size 3 ints W hs t := ⟨h.len, fun i h1 h2 => RowT.of_owns (h.own i h1 h2)⟩
theorem owns_keep {row : Option Nat} {v : Value} {n : Nat} {xs : List Value} (h : W.ownsRow base 3 1 v n xs) (hg : W.grownBy W' row) (hr : ∀ k, row = some k → k < base ∨ xM W 3 k) : W'.ownsRow base 3 1 v n xs := by
 refine h.kept hg ?_
 rcases hv : v.ownBlock with _ | k
 ·exact .inl rfl
 ·refine .inr fun e => ?_
  rcases hr k e.symm with hk | ⟨c, e', m, hp, hne⟩
  ·have := (h.lt k hv).1; omega
  ·exact zQ h hp (Ne.symm hne) hv
theorem OwnsT.kept {row : Option Nat} (h : OwnsT base W hs t) (hg : W.grownBy W' row) (hr : ∀ k, row = some k → k < base ∨ xM W 3 k) : OwnsT base W' hs t :=
 ⟨h.len, fun i h1 h2 => owns_keep (h.own i h1 h2) hg hr, h.dis⟩
theorem OwnsT.snoc {v : Value} {r : List Int} (h : OwnsT base W hs t) (ho : W.ownsRow base 3 1 v r.length (ints r)) (hd : ∀ i (hi : i < hs.length), ∀ k, hs[i].ownBlock = some k → v.ownBlock ≠ some k) : OwnsT base W (hs ++ [v]) (t ++ [r]) := by
 have hl := h.len
 refine ⟨by simp [hl], fun i h1 h2 => ?_, fun i j hi hj hij k hk => ?_⟩
 ·by_cases hi : i < hs.length
  ·have := h.own i hi (by omega)
   rw [List.getElem_append_left hi]
   simp only [List.getElem_append_left (show i < t.length by omega)]
   exact this
  ·have e : i = hs.length := by simp at h1; omega
   subst e
   rw [List.getElem_append_right (Nat.le_refl _)]
   simp only [List.getElem_append_right (show t.length ≤ hs.length by omega)]
   simpa [hl] using ho
 ·simp only [List.length_append, List.length_singleton] at hi hj
  by_cases h1 : i < hs.length
  ·rw [List.getElem_append_left h1] at hk
   by_cases h2 : j < hs.length
   ·rw [List.getElem_append_left h2]; exact h.dis i j h1 h2 hij k hk
   ·have e : j = hs.length := by omega
    subst e
    rw [List.getElem_append_right (Nat.le_refl _)]
    simpa using hd i h1 k hk
  ·have e : i = hs.length := by omega
   subst e
   rw [List.getElem_append_right (Nat.le_refl _)] at hk
   have h2 : j < hs.length := by omega
   rw [List.getElem_append_left h2]
   intro e
   exact hd j h2 k e (by simpa using hk)
theorem OwnsT.lt (h : OwnsT base W hs t) {i : Nat} (hi : i < hs.length) {k : Nat} (hk : hs[i].ownBlock = some k) : base ≤ k ∧ k < W.heap.size := (h.own i hi (by rw [← h.len]; exact hi)).lt k hk
theorem OwnsT.at (h : OwnsT base W hs t) {q : Nat} (hq : q < t.length) (hp : 0 < (t.getD q []).length) : ∃ g c, hs[q]? = some (.slice (some ⟨g, 0, none⟩) (t.getD q []).length c) ∧ (t.getD q []).length ≤ c ∧ c ≤ maxLen ∧ base ≤ g ∧ Arr W g 3 (ints (t.getD q [])) := by
 have hq' : q < hs.length := by rw [h.len]; exact hq
 have ho := h.own q hq' hq
 have e : t.getD q [] = t[q] := by simp [List.getD_eq_getElem?_getD, hq]
 rw [e] at hp ⊢
 obtain ⟨sa, sc, hv⟩ := uX ho
 rw [hv] at ho
 obtain ⟨kb, rfl, h1, h2, h3⟩ := yT ho hp
 refine ⟨kb, sc, by rw [List.getElem?_eq_getElem hq', hv], h1, h2, (ho.lt kb rfl).1, h3⟩
theorem OwnsT.poke (h : OwnsT base W hs t) {q g a c n : Nat} (hv : hs[q]? = some (.slice (some ⟨g, 0, none⟩) n c)) (ha : a < (t.getD q []).length) (x : Int) : OwnsT base (W.setCell ⟨g, a, none⟩ (.int .i64 x)) hs (t.set q ((t.getD q []).set a x)) := by
 obtain ⟨hq, he⟩ := List.getElem?_eq_some_iff.1 hv
 have hl := h.len
 have hg := zH W ⟨g, a, none⟩ (.int .i64 x)
 refine ⟨by simp [hl], fun i h1 h2 => ?_, h.dis⟩
 rw [List.length_set] at h2
 by_cases e : q = i
 ·subst e
  have ho := h.own q h1 h2
  have e2 : t.getD q [] = t[q] := by simp [List.getD_eq_getElem?_getD, h2]
  rw [e2] at ha
  simp only [List.getElem_set_self, e2]
  rw [he] at ho ⊢
  obtain ⟨hl1, ho⟩ := ho
  refine ⟨by simp [ints], ?_⟩
  rcases ho with ⟨h7, _⟩ | ⟨g', cap, cur, hs', hb, hgc, hc1, hc2, hc3, hc4⟩
  ·simp at h7
  ·simp only [Value.slice.injEq, Option.some.injEq, Addr.mk.injEq, and_true] at hs'
   obtain ⟨rfl, hn, rfl⟩ := hs'
   subst hn
   refine .inr ⟨g, c, cur.setIfInBounds a (.int .i64 x), by simp, hb, heap_setCell_same W g a _ _ _ hgc, by simpa using hc1, hc2, by simpa using hc3, ?_⟩
   simp only [List.length_set, Nat.mul_one] at hc4 ⊢
   rw [Array.toList_setIfInBounds, List.take_set, hc4]
   simp [ints, List.map_set]
 ·have ho := h.own i h1 h2
  simp only [List.getElem_set_ne e]
  exact ho.kept hg (by
   rcases hv2 : hs[i].ownBlock with _ | k
   ·exact .inl rfl
   ·refine .inr fun e3 => ?_
    have e3 := Option.some.inj e3
    subst e3
    exact h.dis i q h1 hq (fun e4 => e e4.symm) _ hv2 (by rw [he]; rfl))
end
structure Half (base : Nat) (W : World) (o : Nat) (L S : Int) (fs : List Bool) (t : List (List Int)) (hs : List Value) (sf : Option Addr) (cf : Nat) (sn : Option Addr) (cn : Nat) : Prop where
 box : W.heap[o]? = some (.cells #[.int .i64 L, .int .i64 S, .slice sf fs.length cf, .slice sn t.length cn] 28 (0, 0))
 ownF : W.ownsRow base 4 1 (.slice sf fs.length cf) fs.length (bls fs)
 ownN : W.ownsRow base 22 1 (.slice sn t.length cn) t.length hs
 rows : OwnsT base W hs t
section
variable {base o : Nat} {W W' : World} {L S : Int} {fs : List Bool} {t : List (List Int)} {hs : List Value} {sf sn : Option Addr} {cf cn : Nat}
theorem Half.built (h : Half base W o L S fs t hs sf cf sn cn) (hl : fs.length = t.length) : Built base W o L S fs t hs sf cf sn cn := ⟨h.box, h.ownF, h.ownN, h.rows.rowsT, hl⟩
theorem Half.far {r : Nat} {cs : Array Value} {m : Nat × Nat} (h : Half base W o L S fs t hs sf cf sn cn) (hg : W.grownBy W' (some r)) (hr : W.heap[r]? = some (.cells cs 28 m)) (hne : r ≠ o) : Half base W' o L S fs t hs sf cf sn cn where
 box := zE h.box hg (fun e => hne (Option.some.inj e))
 ownF := h.ownF.kept hg (.inr (zQ h.ownF hr (by decide)))
 ownN := h.ownN.kept hg (.inr (zQ h.ownN hr (by decide)))
 rows := h.rows.kept hg (fun k hk => .inr (by have := Option.some.inj hk; subst this; exact ⟨_, _, _, hr, by decide⟩))
theorem Half.grow (h : Half base W o L S fs t hs sf cf sn cn) (hg : W.grownBy W' none) : Half base W' o L S fs t hs sf cf sn cn where
 box := zE h.box hg (by simp)
 ownF := yB h.ownF hg (by simp)
 ownN := yB h.ownN hg (by simp)
 rows := h.rows.kept hg (by simp)
theorem Half.tape {B tb : Nat} (h : Half base W o L S fs t hs sf cf sn cn) (hT : xT B W tb) (hg : W.grownBy W' (some tb)) : Half base W' o L S fs t hs sf cf sn cn := by
 obtain ⟨sl, zs, n, hr, _⟩ := hT
 refine ⟨zE h.box hg (fun e => ?_), h.ownF.kept hg (.inr (zQ h.ownF hr (by decide))), h.ownN.kept hg (.inr (zQ h.ownN hr (by decide))), ?_⟩
 ·have e := Option.some.inj e
  have h1 := h.box
  rw [← e, hr] at h1
  simp at h1
 ·exact h.rows.kept hg (fun k hk => .inr (by have := Option.some.inj hk; subst this; exact ⟨_, _, _, hr, by decide⟩))
theorem owns_two {w : World} {base e e' n n' : Nat} {v v' : Value} {xs ys : List Value} (h : w.ownsRow base e 1 v n xs) (h' : w.ownsRow base e' 1 v' n' ys) (hne : e ≠ e') : v.ownBlock = none ∨ v.ownBlock ≠ v'.ownBlock := by
 rcases hv : v.ownBlock with _ | k
 ·exact .inl rfl
 ·refine .inr (fun e2 => ?_)
  obtain ⟨c, e3, m, hp, h3⟩ := uK h' (Ne.symm hne) k e2.symm
  exact zQ h hp (Ne.symm h3) hv
theorem Half.pushF {b : Bool} {sf' : Option Addr} {cf' : Nat} (h : Half base W o L S fs t hs sf cf sn cn) (ho : W'.ownsRow base 4 1 (.slice sf' (fs.length + 1) cf') (fs.length + 1) (bls fs ++ [.bool b])) (hg : W.grownBy W' (Value.slice sf fs.length cf).ownBlock) {W2 : World} (hW2 : W2 = W'.setCell ⟨o, 2, none⟩ (.slice sf' (fs.length + 1) cf')) :
  Half base W2 o L S (fs ++ [b]) t hs sf' cf' sn cn ∧ ∀ w0 : World, w0.grownBy W (some o) → w0.heap.size ≤ base → w0.grownBy W2 (some o) := by
 have hbox := zE h.box hg (fun e => zQ h.ownF h.box (by decide) e)
 have s1 := heap_setCell_same W' o 2 _ _ (.slice sf' (fs.length + 1) cf') hbox
 have g1 : W'.grownBy W2 (some o) := by rw [hW2]; exact zH W' ⟨o, 2, none⟩ _
 have hoth : xM W' 3 o := ⟨_, _, _, hbox, by decide⟩
 have hN := h.ownN.kept hg (owns_two h.ownN h.ownF (by decide))
 have hR := h.rows.kept hg (fun k hk => .inr (uK h.ownF (by decide) k hk))
 refine ⟨⟨?_, ?_, hN.kept g1 (.inr (zQ hN hbox (by decide))), hR.kept g1 (fun k hk => .inr (by have := Option.some.inj hk; subst this; exact hoth))⟩, fun w0 hw0 hb => ?_⟩
 ·rw [hW2, s1]; simp
 ·have := ho.kept g1 (.inr (zQ ho hbox (by decide)))
  rw [List.length_append]
  simpa [bls] using this
 ·exact zF (zG hw0 hg (fun k hk => Nat.le_trans hb (h.ownF.lt k hk).1)) g1
theorem Half.pushN {row : List Int} {rv : Value} {sn' : Option Addr} {cn' : Nat} (h : Half base W o L S fs t hs sf cf sn cn) (ho : W'.ownsRow base 22 1 (.slice sn' (t.length + 1) cn') (t.length + 1) (hs ++ [rv])) (hg : W.grownBy W' (Value.slice sn t.length cn).ownBlock)
  (hrow : W.ownsRow base 3 1 rv row.length (ints row)) (hdis : ∀ i (hi : i < hs.length), ∀ k, hs[i].ownBlock = some k → rv.ownBlock ≠ some k) {W2 : World} (hW2 : W2 = W'.setCell ⟨o, 3, none⟩ (.slice sn' (t.length + 1) cn')) :
  Half base W2 o L S fs (t ++ [row]) (hs ++ [rv]) sf cf sn' cn' ∧ ∀ w0 : World, w0.grownBy W (some o) → w0.heap.size ≤ base → w0.grownBy W2 (some o) := by
 have hbox := zE h.box hg (fun e => zQ h.ownN h.box (by decide) e)
 have s1 := heap_setCell_same W' o 3 _ _ (.slice sn' (t.length + 1) cn') hbox
 have g1 : W'.grownBy W2 (some o) := by rw [hW2]; exact zH W' ⟨o, 3, none⟩ _
 have hoth : xM W' 3 o := ⟨_, _, _, hbox, by decide⟩
 have hF := h.ownF.kept hg (owns_two h.ownF h.ownN (by decide))
 have hR := (h.rows.snoc hrow hdis).kept hg (fun k hk => .inr (uK h.ownN (by decide) k hk))
 refine ⟨⟨?_, hF.kept g1 (.inr (zQ hF hbox (by decide))), ?_, hR.kept g1 (fun k hk => .inr (by have := Option.some.inj hk; subst this; exact hoth))⟩, fun w0 hw0 hb => ?_⟩
 ·rw [hW2, s1]; simp
 ·have := ho.kept g1 (.inr (zQ ho hbox (by decide)))
  rw [List.length_append]
  exact this
 ·exact zF (zG hw0 hg (fun k hk => Nat.le_trans hb (h.ownN.lt k hk).1)) g1
end
def DfaOwn (w w' : World) (v : Value) (m : DfaV) : Prop := ∃ (o : Nat) (hs : List Value) (sf : Option Addr) (cf : Nat) (sn : Option Addr) (cn : Nat),
 v = .agg #[.int .i64 m.letters, .int .i64 m.start, .slice sf m.final.length cf, .slice sn m.next.length cn] ∧ w.heap.size ≤ o ∧ Half w.heap.size w' o m.letters m.start m.final m.next hs sf cf sn cn
theorem Half.base {base base' o : Nat} {W : World} {L S : Int} {fs : List Bool} {t : List (List Int)} {hs : List Value} {sf sn : Option Addr} {cf cn : Nat} (h : Half base W o L S fs t hs sf cf sn cn) (hb : base' ≤ base) : Half base' W o L S fs t hs sf cf sn cn :=
 ⟨h.box, yJ h.ownF hb, yJ h.ownN hb, ⟨h.rows.len, fun i h1 h2 => yJ (h.rows.own i h1 h2) hb, h.rows.dis⟩⟩
theorem Half.at {base o : Nat} {W : World} {L S : Int} {fs : List Bool} {t : List (List Int)} {hs : List Value} {sf sn : Option Addr} {cf cn : Nat} (h : Half base W o L S fs t hs sf cf sn cn) {q : Nat} (hq : q < t.length) (hp : 0 < (t.getD q []).length) :
  ∃ kb g c, sn = some ⟨kb, 0, none⟩ ∧ t.length ≤ cn ∧ cn ≤ maxLen ∧ hs[q]? = some (.slice (some ⟨g, 0, none⟩) (t.getD q []).length c) ∧ W.cell? ⟨kb, q, none⟩ = some (.slice (some ⟨g, 0, none⟩) (t.getD q []).length c) ∧ (t.getD q []).length ≤ c ∧ c ≤ maxLen ∧ base ≤ g ∧ Arr W g 3 (ints (t.getD q [])) := by
 obtain ⟨kb, rfl, h1, h2, h3⟩ := yT h.ownN (by omega)
 obtain ⟨g, c, h4, h5, h6, h7, h8⟩ := h.rows.at hq hp
 obtain ⟨hq', he⟩ := List.getElem?_eq_some_iff.1 h4
 exact ⟨kb, g, c, rfl, h1, h2, h4, by rw [h3.cell q hq', he], h5, h6, h7, h8⟩
theorem Half.poke {base o : Nat} {W : World} {L S : Int} {fs : List Bool} {t : List (List Int)} {hs : List Value} {sf sn : Option Addr} {cf cn : Nat} (h : Half base W o L S fs t hs sf cf sn cn) {q g a c n : Nat} (hv : hs[q]? = some (.slice (some ⟨g, 0, none⟩) n c)) (hA : Arr W g 3 (ints (t.getD q []))) (ha : a < (t.getD q []).length) (x : Int) :
  Half base (W.setCell ⟨g, a, none⟩ (.int .i64 x)) o L S fs (t.set q ((t.getD q []).set a x)) hs sf cf sn cn := by
 obtain ⟨cur, rest, hg, _⟩ := hA
 have hgr := zH W ⟨g, a, none⟩ (.int .i64 x)
 refine ⟨?_, h.ownF.kept hgr (.inr (zQ h.ownF hg (by decide))), ?_, h.rows.poke hv ha x⟩
 ·rw [List.length_set]
  refine zE h.box hgr (fun e => ?_)
  have e : g = o := Option.some.inj e
  subst e
  have := h.box
  rw [hg] at this
  simp at this
 ·rw [List.length_set]
  exact h.ownN.kept hgr (.inr (zQ h.ownN hg (by decide)))
theorem Half.move {base o o' : Nat} {W : World} {L S L' S' : Int} {fs : List Bool} {t : List (List Int)} {hs : List Value} {sf sn : Option Addr} {cf cn : Nat} (h : Half base W o L S fs t hs sf cf sn cn) (hb : W.heap[o']? = some (.cells #[.int .i64 L', .int .i64 S', .slice sf fs.length cf, .slice sn t.length cn] 28 (0, 0))) : Half base W o' L' S' fs t hs sf cf sn cn := ⟨hb, h.ownF, h.ownN, h.rows⟩
def sS (t : List (List Int)) (n k : Nat) : Prop := ∀ r ∈ t, r.length = k ∧ ∀ x ∈ r, 0 ≤ x ∧ x < n
theorem getDm {α : Type} {l : List α} {d : α} {q : Nat} (h : q < l.length) : l.getD q d ∈ l := by
 rw [List.getD_eq_getElem?_getD, List.getElem?_eq_getElem h]; exact List.getElem_mem _
theorem sS.set {t : List (List Int)} {n k q a : Nat} {x : Int} (h : sS t n k) (hq : q < t.length) (h0 : 0 ≤ x) (hx : x < n) : sS (t.set q ((t.getD q []).set a x)) n k := by
 intro r hr
 rcases List.mem_or_eq_of_mem_set hr with hr | rfl
 ·exact h r hr
 ·have := h _ (getDm (d := []) hq)
  refine ⟨by rw [List.length_set]; exact this.1, fun y hy => ?_⟩
  rcases List.mem_or_eq_of_mem_set hy with hy | rfl
  ·exact this.2 y hy
  ·exact ⟨h0, hx⟩
theorem sS.vd {t : List (List Int)} {n k : Nat} {S : Int} {fs : List Bool} (h : sS t n k) (h1 : 1 ≤ k) (h6 : k ≤ 6) (hn : 1 ≤ n) (h512 : n ≤ 512) (hf : fs.length = n) (ht : t.length = n) (hs0 : 0 ≤ S) (hs1 : S < n) : VD ⟨k, S, fs, t⟩ n k := by
 refine ⟨rfl, h1, h6, hf, hn, h512, ht, hs0, hs1, fun q hq => ?_, fun q a hq ha => ?_, fun q a hq ha => ?_⟩
 ·have hq2 : q < t.length := by omega
  exact (h _ (getDm hq2)).1
 ·have hq2 : q < t.length := by omega
  have h := h (t.getD q []) (getDm hq2)
  have ha2 : a < (t.getD q []).length := by omega
  exact (h.2 ((t.getD q []).getD a 0) (getDm ha2)).1
 ·have hq2 : q < t.length := by omega
  have h := h (t.getD q []) (getDm hq2)
  have ha2 : a < (t.getD q []).length := by omega
  exact (h.2 ((t.getD q []).getD a 0) (getDm ha2)).2
theorem step_app1 {P : Program} {ops : Array Oper} {o : Oper} {a : Act} {w : World} {K : Act → World → Prop} {Q : Exit → Act → World → Prop} {R : Prop} (hgd : o.guard = none) (s x : Operand) (t : TypeId)
  (ho : o.op = .call { callee := .builtin .append, args := #[s, x], argTypes := #[t, t] })
  {e : TypeId} {z : Value} {bytes : Nat} (E : ElemOk P t e z bytes) (base : Nat) (v : Value) (n : Nat) (xs : List Value) (hs : a.eval s = v) (hown : w.ownsRow base e 1 v n xs)
  (u : Value) (blk : Nat) (m : Nat × Nat) (hx : a.eval x = .slice (some ⟨blk, 0, none⟩) 1 1) (hblk : w.heap[blk]? = some (.cells #[u] e m)) (h1 : u.oneCell' = true) (h63 : n + 1 ≤ maxLen) (hbytes : (n + 1) * bytes ≤ 140737488355328) (hbase : base ≤ w.heap.size)
  (h : ∀ sa sc w', w'.ownsRow base e 1 (.slice sa (n + 1) sc) (n + 1) (xs ++ [u]) → w.grownBy w' v.ownBlock → K (a.put o.dst (.slice sa (n + 1) sc)) w') :
  if Region.wanted o (yielded ops a.tmps) = true then Oper.wp P o a w K Q else R := by
 have hw : Region.wanted o (yielded ops a.tmps) = true := by simp [Region.wanted, hgd]
 rw [if_pos hw]
 obtain ⟨i, hi, hz, hsz, hby⟩ := info_parts E.hi
 refine wp_append_own w s x t ho base e i z 1 bytes E.ht hi hz hsz hby E.hz (by decide) v n xs hs hown ⟨blk, 0, none⟩ 1 1 [u] hx rfl ?_ ?_ h63 hbytes hbase ?_
 ·intro j u' hj
  match j, hj with
  | 0, hj => simp at hj; subst hj; simpa [Addr.add] using zJ hblk 0 (by simp)
 ·intro u' hu; simp at hu; subst hu; exact h1
 ·intro v' w' h1 h2 _
  obtain ⟨sa, sc, rfl⟩ := uX h1
  exact h sa sc w' h1 h2
end Go.Proofs.YtdjhoadoiknaoaaDoor
