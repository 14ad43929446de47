/- Part 12 of the proof: BuildD, EMem0, App1. -/
import Derived.Test.YtgbfaggnnfoamaaZi11
set_option linter.unusedVariables false
set_option linter.unusedSimpArgs false
namespace Go.Proofs.Ytgbfaggnnfoamaa
open Go.RowKit
theorem RowT.shape {B : Nat} {e : TypeId} {w : World} {v : Value} {xs : List Value} (h : RowT B e w v xs) : ∃ a cap, v = .slice a xs.length cap := by
 rcases h with ⟨rfl, rfl⟩ | ⟨b, off, cap, cur, m, rfl, _⟩
 ·exact ⟨none, 0, rfl⟩
 ·exact ⟨_, _, rfl⟩
theorem Mat.of_rows {w : World} {base e n : Nat} {v : Value} {hs : List Value} {t : List (List Int)} {B : Nat} (h : w.ownsRow base e 1 v n hs) (hr : uF B 3 ints w hs t) (hB : B ≤ w.heap.size) : Mat w.heap.size w v t := by
 have hl : hs.length = n := by have := h.1; omega
 have hht := hr.1
 rcases h.2 with ⟨rfl, rfl⟩ | ⟨g, cap, cur, rfl, hb, hg, hnc, hcm, hcs, htake⟩
 ·have : hs = [] := List.eq_nil_of_length_eq_zero hl
  subst this
  exact .inl ⟨_, _, rfl, List.eq_nil_of_length_eq_zero (by simpa using hht.symm)⟩
 ·have hsh : ∀ x, ∃ a c, x < t.length → hs.getD x (.int .i64 0) = .slice a (t.getD x []).length c := by
   intro x
   by_cases hx : x < t.length
   ·have h1 := hr.2 x (by omega) hx
    obtain ⟨a, c, e⟩ := h1.shape
    refine ⟨a, c, fun _ => ?_⟩
    rw [zI (by omega), e, yJ, zI hx]
   ·exact ⟨none, 0, fun h => absurd h hx⟩
  obtain ⟨A, hA⟩ := Classical.axiomOfChoice hsh
  obtain ⟨C, hC⟩ := Classical.axiomOfChoice hA
  refine .inr ⟨g, 0, cap, A, C, ?_, by omega, hcm, zQ hg, zQ hg, fun x hx => ?_, fun x hx => ?_⟩
  ·rw [show n = t.length by omega]
  ·rw [Nat.zero_add, h.cellAt x (by omega), List.getElem?_eq_getElem (by omega), ← hC x hx, zI (show x < hs.length by omega)]
  ·have h1 := hr.2 x (by omega) hx
   have h2 := hC x hx
   rw [zI (show x < hs.length by omega)] at h2
   rw [← h2, zI hx]
   exact h1.row.mono hB
theorem RowT.keptF {B : Nat} {e : TypeId} {w w' : World} {v : Value} {xs : List Value} {F : Nat → Prop} (h : RowT B e w v xs) (hg : GrownBut w w' F) (hr : ∀ k, F k → B ≤ k ∨ xV w e k) : RowT B e w' v xs := by
 rcases h with h | ⟨b, off, cap, cur, m, h1, h2, h3, h4, h5, h6⟩
 ·exact .inl h
 ·refine .inr ⟨b, off, cap, cur, m, h1, h2, h3, h4, hg.heap h5 (fun hf => ?_), h6⟩
  rcases hr b hf with hk | ⟨cur', e', m', hk, hne⟩
  ·omega
  ·rw [h5] at hk; simp at hk; exact hne hk.2.1.symm
theorem uF.keptF {α : Type} {B : Nat} {e : TypeId} {f : α → List Value} {w w' : World} {svs : List Value} {ps : List α} {F : Nat → Prop} (h : uF B e f w svs ps) (hg : GrownBut w w' F) (hr : ∀ k, F k → B ≤ k ∨ xV w e k) : uF B e f w' svs ps :=
 ⟨h.1, fun i h1 h2 => (h.2 i h1 h2).keptF hg hr⟩
theorem wM {w : World} {p e : Nat} {x0 x1 x2 x3 : Value} (h : w.heap[p]? = some (.cells #[x0, x1, x2, x3] e (0, 0))) (y0 y1 y2 y3 : Value) :
  ((((w.setCell ⟨p, 0, none⟩ y0).setCell ⟨p, 1, none⟩ y1).setCell ⟨p, 2, none⟩ y2).setCell ⟨p, 3, none⟩ y3).heap[p]? = some (.cells #[y0, y1, y2, y3] e (0, 0)) ∧ w.grownBy ((((w.setCell ⟨p, 0, none⟩ y0).setCell ⟨p, 1, none⟩ y1).setCell ⟨p, 2, none⟩ y2).setCell ⟨p, 3, none⟩ y3) (some p) := by
 have s0 := heap_setCell_same w p 0 _ _ y0 h
 have s1 := heap_setCell_same _ p 1 _ _ y1 s0
 have s2 := heap_setCell_same _ p 2 _ _ y2 s1
 have s3 := heap_setCell_same _ p 3 _ _ y3 s2
 refine ⟨by rw [s3]; simp, ?_⟩
 exact zE (zE (zE (zC w ⟨p, 0, none⟩ y0) (zC (w.setCell ⟨p, 0, none⟩ y0) ⟨p, 1, none⟩ y1)) (zC ((w.setCell ⟨p, 0, none⟩ y0).setCell ⟨p, 1, none⟩ y1) ⟨p, 2, none⟩ y2)) (zC (((w.setCell ⟨p, 0, none⟩ y0).setCell ⟨p, 1, none⟩ y1).setCell ⟨p, 2, none⟩ y2) ⟨p, 3, none⟩ y3)
structure Built (base : Nat) (W : World) (o : Nat) (L S : Int) (fs : List Bool) (t : List (List Int)) (hs : List Value) (sf : Option Addr) (cf : Nat) (sn : Option Addr) (cn : Nat) : Prop where
 box : W.heap[o]? = some (.cells #[.int .i64 L, .int .i64 S, .slice sf fs.length cf, .slice sn t.length cn] 49 (0, 0))
 ownF : W.ownsRow base 4 1 (.slice sf fs.length cf) fs.length (bls fs)
 ownN : W.ownsRow base 30 1 (.slice sn t.length cn) t.length hs
 rows : uF W.heap.size 3 ints W hs t
 len : fs.length = t.length
section
variable {base o : Nat} {W W' : World} {L S : Int} {fs : List Bool} {t : List (List Int)} {hs : List Value} {sf sn : Option Addr} {cf cn : Nat}
theorem Built.grow (h : Built base W o L S fs t hs sf cf sn cn) (hg : W.grownBy W' none) : Built base W' o L S fs t hs sf cf sn cn where
 box := zA h.box hg (by simp)
 ownF := yQ h.ownF hg (by simp)
 ownN := yQ h.ownN hg (by simp)
 rows := (h.rows.kept hg (by simp)).mono hg.size
 len := h.len
theorem Built.dfa (h : Built base W o L S fs t hs sf cf sn cn) : vR W.heap.size W (.agg #[.int .i64 L, .int .i64 S, .slice sf fs.length cf, .slice sn t.length cn]) ⟨L, S, fs, t⟩ :=
 ⟨_, _, rfl, Row.of_owns h.ownF, Mat.of_rows h.ownN h.rows (Nat.le_refl _)⟩
theorem Built.far {r : Nat} {cs : Array Value} {m : Nat × Nat} (h : Built base W o L S fs t hs sf cf sn cn) (hg : W.grownBy W' (some r)) (hr : W.heap[r]? = some (.cells cs 49 m)) (hne : r ≠ o) : Built base W' o L S fs t hs sf cf sn cn where
 box := zA h.box hg (fun e => hne (Option.some.inj e))
 ownF := h.ownF.kept hg (.inr (zM h.ownF hr (by decide)))
 ownN := h.ownN.kept hg (.inr (zM h.ownN hr (by decide)))
 rows := (h.rows.kept hg (fun k hk => .inr (by have := Option.some.inj hk; subst this; exact ⟨_, _, _, hr, by decide⟩))).mono hg.size
 len := h.len
theorem Built.congr {fs' : List Bool} {t' : List (List Int)} (h : Built base W o L S fs t hs sf cf sn cn) (e1 : fs' = fs) (e2 : t' = t) : Built base W o L S fs' t' hs sf cf sn cn := by rw [e1, e2]; exact h
def rN (base : Nat) (n : Nat) (hs : List Value) (sn : Option Addr) (cn : Nat) : RowS := ⟨base, 30, .slice sn n cn, n, hs, 1⟩
def rF (base : Nat) (fs : List Bool) (sf : Option Addr) (cf : Nat) : RowS := ⟨base, 4, .slice sf fs.length cf, fs.length, bls fs, 1⟩
theorem Built.apart (h : Built base W o L S fs t hs sf cf sn cn) : ∀ k, (Value.slice sn t.length cn).ownBlock = some k → (Value.slice sf fs.length cf).ownBlock ≠ some k := by
 intro k hk e
 rcases h.ownF.2 with ⟨hv, _⟩ | ⟨g, cap, cur, hv, _, hg, _⟩
 ·rw [hv] at e; simp [Value.ownBlock] at e
 ·rw [hv] at e
  have : g = k := by simpa [Value.ownBlock] using e
  subst this
  exact zM h.ownN hg (by decide) hk
def FB (sf : Option Addr) (sn : Option Addr) (k : Nat) : Prop := (Value.slice sn 0 0).ownBlock = some k ∨ (Value.slice sf 0 0).ownBlock = some k
theorem zN (s : Option Addr) (n c : Nat) : (Value.slice s n c).ownBlock = (Value.slice s 0 0).ownBlock := by cases s <;> rfl
theorem Built.many (h : Built base W o L S fs t hs sf cf sn cn) : Many W (FB sf sn) W [rN base t.length hs sn cn, rF base fs sf cf] [] [] := by
 have := Many.two (w := W) (r := rN base t.length hs sn cn) (s := rF base fs sf cf) h.ownN h.ownF h.apart
 have e : (fun k => (rN base t.length hs sn cn).v.ownBlock = some k ∨ (rF base fs sf cf).v.ownBlock = some k) = FB sf sn := by
  funext k; simp only [rN, rF, FB, zN sn t.length, zN sf fs.length]
 rwa [e] at this
theorem Built.other (h : Built base W o L S fs t hs sf cf sn cn) : ∀ k, FB sf sn k → xV W 3 k := by
 intro k hk
 rcases hk with hk | hk
 ·rw [← zN sn t.length cn] at hk; exact xE h.ownN (by decide) k hk
 ·rw [← zN sf fs.length cf] at hk; exact xE h.ownF (by decide) k hk
theorem Built.notbox (h : Built base W o L S fs t hs sf cf sn cn) : ¬ FB sf sn o := by
 rintro (hk | hk)
 ·rw [← zN sn t.length cn] at hk; exact zM h.ownN h.box (by decide) hk
 ·rw [← zN sf fs.length cf] at hk; exact zM h.ownF h.box (by decide) hk
theorem Built.ge (h : Built base W o L S fs t hs sf cf sn cn) : ∀ k, FB sf sn k → base ≤ k := by
 rintro k (hk | hk)
 ·rw [← zN sn t.length cn] at hk; exact (h.ownN.lt k hk).1
 ·rw [← zN sf fs.length cf] at hk; exact (h.ownF.lt k hk).1
theorem Built.push {m : Nat} {b : Bool} {row : List Int} {rv : Value} {sf' sn' : Option Addr} {cf' cn' : Nat} {ls : List (Nat × Obj)} {ps : List (Nat × TypeId × List Value)} (h : Built base W o L S fs t hs sf cf sn cn) (hm : t.length = m)
  (hM : Many W (FB sf sn) W' [⟨base, 30, .slice sn' (m + 1) cn', m + 1, hs ++ [rv], 1⟩, ⟨base, 4, .slice sf' (m + 1) cf', m + 1, bls fs ++ [.bool b], 1⟩] ls ps)
  (hrow : RowT W.heap.size 3 W rv (ints row)) {W2 : World} (hW2 : W2 = (W'.setCell ⟨o, 3, none⟩ (.slice sn' (m + 1) cn')).setCell ⟨o, 2, none⟩ (.slice sf' (m + 1) cf')) :
  Built base W2 o L S (fs ++ [b]) (t ++ [row]) (hs ++ [rv]) sf' cf' sn' cn' ∧ ∀ w0 : World, w0.grownBy W (some o) → w0.heap.size ≤ base → w0.grownBy W2 (some o) := by
 have hfl : fs.length = m := h.len.trans hm
 have hN := hM.own 0 _ rfl
 have hF := hM.own 1 _ rfl
 simp only [] at hN hF
 have hbox := hM.but.heap h.box h.notbox
 have hrows := (h.rows.snoc hrow).keptF hM.but (fun k hk => .inr (h.other k hk))
 have s1 := heap_setCell_same W' o 3 _ _ (.slice sn' (m + 1) cn') hbox
 have s2 := heap_setCell_same _ o 2 _ _ (.slice sf' (m + 1) cf') s1
 have g1 : W'.grownBy W2 (some o) := by rw [hW2]; exact zE (zC W' ⟨o, 3, none⟩ _) (zC (W'.setCell ⟨o, 3, none⟩ (.slice sn' (m + 1) cn')) ⟨o, 2, none⟩ _)
 have hob : xV W' 3 o := ⟨_, _, _, hbox, by decide⟩
 refine ⟨⟨?_, ?_, ?_, ?_, by simp [h.len]⟩, fun w0 hw0 hb => ?_⟩
 ·rw [hW2, s2]
  simp [hfl, hm]
 ·have := hF.kept g1 (.inr (zM hF hbox (by decide)))
  rw [List.length_append, hfl]
  simpa [bls] using this
 ·have := hN.kept g1 (.inr (zM hN hbox (by decide)))
  rw [List.length_append, hm]
  exact this
 ·exact (hrows.kept g1 (fun k hk => .inr (by have := Option.some.inj hk; subst this; exact hob))).mono (Nat.le_trans hM.but.size g1.size)
 ·exact zE (hM.but.grown hw0 (fun k hk => .inr (Nat.le_trans hb (h.ge k hk)))) g1
def uK (w w' : World) (v : Value) (m : DfaV) : Prop := ∃ (o : Nat) (hs : List Value) (sf : Option Addr) (cf : Nat) (sn : Option Addr) (cn : Nat),
 v = .agg #[.int .i64 m.letters, .int .i64 m.start, .slice sf m.final.length cf, .slice sn m.next.length cn] ∧ w.heap.size ≤ o ∧ Built o w' o m.letters m.start m.final m.next hs sf cf sn cn
theorem uK.dfa {w w' : World} {v : Value} {m : DfaV} (h : uK w w' v m) : vR w'.heap.size w' v m := by
 obtain ⟨o, hs, sf, cf, sn, cn, rfl, _, hb⟩ := h
 exact hb.dfa
theorem uK.grow {w w' w'' : World} {v : Value} {m : DfaV} (h : uK w w' v m) (hg : w'.grownBy w'' none) : uK w w'' v m := by
 obtain ⟨o, hs, sf, cf, sn, cn, h1, h2, hb⟩ := h
 exact ⟨o, hs, sf, cf, sn, cn, h1, h2, hb.grow hg⟩
theorem uK.old {w0 w w' : World} {v : Value} {m : DfaV} (h : uK w w' v m) (hg : w0.heap.size ≤ w.heap.size) : uK w0 w' v m := by
 obtain ⟨o, hs, sf, cf, sn, cn, h1, h2, hb⟩ := h
 exact ⟨o, hs, sf, cf, sn, cn, h1, Nat.le_trans hg h2, hb⟩
theorem uK.far {w w' w'' : World} {v : Value} {m : DfaV} {r : Nat} {cs : Array Value} {mm : Nat × Nat} (h : uK w w' v m) (hg : w'.grownBy w'' (some r)) (hr : w'.heap[r]? = some (.cells cs 49 mm)) (hlt : r < w.heap.size) : uK w w'' v m := by
 obtain ⟨o, hs, sf, cf, sn, cn, h1, h2, hb⟩ := h
 exact ⟨o, hs, sf, cf, sn, cn, h1, h2, hb.far hg hr (by omega)⟩
end
def RowX (X : Nat → Prop) (e : TypeId) (w : World) (v : Value) (xs : List Value) : Prop := RowT w.heap.size e w v xs ∧ ∀ k, v.ownBlock = some k → X k
def oV (X : Nat → Prop) (w w' : World) : Prop := ∀ k, X k → w'.heap[k]? = w.heap[k]?
theorem oV.trans {X : Nat → Prop} {a b c : World} (h : oV X a b) (h' : oV X b c) : oV X a c := fun k hk => (h' k hk).trans (h k hk)
theorem oV.refl (X : Nat → Prop) (w : World) : oV X w w := fun _ _ => rfl
theorem oV.cell {X : Nat → Prop} {w w' : World} (h : oV X w w') {b i : Nat} (hb : X b) {u : Value} (hc : w.cell? ⟨b, i, none⟩ = some u) : w'.cell? ⟨b, i, none⟩ = some u := (World.cell?_of_block (h b hb)).trans hc
theorem RowX.kept {X : Nat → Prop} {e : TypeId} {w w' : World} {v : Value} {xs : List Value} (h : RowX X e w v xs) (hk : oV X w w') (hs : w.heap.size ≤ w'.heap.size) : RowX X e w' v xs := by
 refine ⟨?_, h.2⟩
 rcases h.1 with h1 | ⟨b, off, cap, cur, m, h1, h2, h3, h4, h5, h6⟩
 ·exact .inl h1
 ·exact .inr ⟨b, off, cap, cur, m, h1, by omega, h3, h4, (hk b (h.2 b (by rw [h1]; rfl))).trans h5, h6⟩
theorem RowX.mono {X X' : Nat → Prop} {e : TypeId} {w : World} {v : Value} {xs : List Value} (h : RowX X e w v xs) (hX : ∀ k, X k → X' k) : RowX X' e w v xs := ⟨h.1, fun k hk => hX k (h.2 k hk)⟩
theorem RowX.row {X : Nat → Prop} {e : TypeId} {w : World} {v : Value} {xs : List Value} (h : RowX X e w v xs) : Row w.heap.size w v xs := h.1.row
theorem RowX.of_owns {X : Nat → Prop} {w : World} {base e n : Nat} {v : Value} {xs : List Value} (h : w.ownsRow base e 1 v n xs) (hX : ∀ k, v.ownBlock = some k → X k) : RowX X e w v xs := ⟨RowT.of_owns h, hX⟩
def tC {α : Type} (X : Nat → Prop) (e : TypeId) (f : α → List Value) (w : World) (hs : List Value) (ts : List α) : Prop :=
 hs.length = ts.length ∧ ∀ i (h : i < hs.length) (h' : i < ts.length), RowX X e w hs[i] (f ts[i])
section
variable {α : Type} {X X' : Nat → Prop} {e : TypeId} {f : α → List Value} {w w' : World} {hs : List Value} {ts : List α}
theorem tC.nil : tC X e f w [] [] := ⟨rfl, fun i h => by simp at h⟩
theorem tC.kept (h : tC X e f w hs ts) (hk : oV X w w') (hs' : w.heap.size ≤ w'.heap.size) : tC X e f w' hs ts := ⟨h.1, fun i h1 h2 => (h.2 i h1 h2).kept hk hs'⟩
theorem tC.mono (h : tC X e f w hs ts) (hX : ∀ k, X k → X' k) : tC X' e f w hs ts := ⟨h.1, fun i h1 h2 => (h.2 i h1 h2).mono hX⟩
theorem tC.snoc {v : Value} {t : α} (h : tC X e f w hs ts) (hv : RowX X e w v (f t)) : tC X e f w (hs ++ [v]) (ts ++ [t]) := by
 refine ⟨by simp [h.1], fun i h1 h2 => ?_⟩
 by_cases hi : i < hs.length
 ·rw [List.getElem_append_left hi]
  simp only [List.getElem_append_left (show i < ts.length by rw [← h.1]; exact hi)]
  exact h.2 i hi _
 ·have : i = hs.length := by simp at h1; omega
  subst this
  rw [List.getElem_append_right (Nat.le_refl _)]
  simp only [List.getElem_append_right (show ts.length ≤ hs.length by rw [h.1]; exact Nat.le_refl _)]
  simpa [h.1] using hv
end
section
variable {X : Nat → Prop} {W W' : World} {rs rs' : List RowS}
end
theorem tC.rowsT {α : Type} {X : Nat → Prop} {e : TypeId} {f : α → List Value} {w : World} {hs : List Value} {ts : List α} (h : tC X e f w hs ts) : uF w.heap.size e f w hs ts := ⟨h.1, fun i h3 h4 => (h.2 i h3 h4).1⟩
theorem jE {P : Program} {ops : Array Oper} {o : Oper} {a : Act} {w : World} {K : Act → World → Prop} {Q : Exit → Act → World → Prop} {R : Prop} (hgd : o.guard = none) (s x : Operand) (t : TypeId)
  (ho : o.op = .call { callee := .builtin .append, args := #[s, x], argTypes := #[t, t] })
  {e : TypeId} {z : Value} {bytes : Nat} (E : ElemOk P t e z bytes) (base : Nat) (v : Value) (n : Nat) (xs : List Value) (hs : a.eval s = v) (hown : w.ownsRow base e 1 v n xs)
  (u : Value) (blk : Nat) (m : Nat × Nat) (hx : a.eval x = .slice (some ⟨blk, 0, none⟩) 1 1) (hblk : w.heap[blk]? = some (.cells #[u] e m)) (h1 : u.oneCell' = true) (h63 : n + 1 ≤ maxLen) (hbytes : (n + 1) * bytes ≤ 140737488355328) (hbase : base ≤ w.heap.size)
  (h : ∀ sa sc w', w'.ownsRow base e 1 (.slice sa (n + 1) sc) (n + 1) (xs ++ [u]) → w.grownBy w' v.ownBlock → K (a.put o.dst (.slice sa (n + 1) sc)) w') :
  if Region.wanted o (yielded ops a.tmps) = true then Oper.wp P o a w K Q else R := by
 have hw : Region.wanted o (yielded ops a.tmps) = true := by simp [Region.wanted, hgd]
 rw [if_pos hw]
 obtain ⟨i, hi, hz, hsz, hby⟩ := info_parts E.hi
 refine wp_append_own w s x t ho base e i z 1 bytes E.ht hi hz hsz hby E.hz (by decide) v n xs hs hown ⟨blk, 0, none⟩ 1 1 [u] hx rfl ?_ ?_ h63 hbytes hbase ?_
 ·intro j u' hj
  match j, hj with
  | 0, hj => simp at hj; subst hj; simpa [Addr.add] using zK hblk 0 (by simp)
 ·intro u' hu; simp at hu; subst hu; exact h1
 ·intro v' w' h1 h2 _
  obtain ⟨sa, sc, rfl⟩ := tW h1
  exact h sa sc w' h1 h2
end Go.Proofs.Ytgbfaggnnfoamaa
