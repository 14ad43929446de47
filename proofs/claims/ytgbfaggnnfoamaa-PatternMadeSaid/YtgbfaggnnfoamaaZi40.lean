/- Part 40 of the proof: RMem, Blk. -/
import Derived.Test.YtgbfaggnnfoamaaZi39
set_option linter.unusedVariables false
set_option linter.unusedSimpArgs false
namespace Go.Proofs.Ytgbfaggnnfoamaa
open Go.RowKit Go.Maps
def setV (m g : Nat) : Value := .slice (some ⟨g, 0, none⟩) m m
theorem uP {W : World} {B B' e e' s s' n n' : Nat} {v v' : Value} {xs xs' : List Value} (h : W.ownsRow B e s v n xs) (h' : W.ownsRow B' e' s' v' n' xs') (hne : e ≠ e') : v.ownBlock = none ∨ v.ownBlock ≠ v'.ownBlock := by
 rcases hv : v.ownBlock with _ | j
 ·exact .inl rfl
 ·refine .inr fun e1 => ?_
  obtain ⟨cu, e2, mm, hh, hn⟩ := xE h hne j hv
  exact zM h' hh (fun e3 => hn e3.symm) e1.symm
theorem BX.appI {W0 W W' : World} {o k : Nat} {X : Nat → Prop} {fs : List Bool} {t : List (List Int)} {hs : List Value} {sf : Option Addr} {cf : Nat} {sn : Option Addr} {cn : Nat} (h : BX W0 W o X k fs t hs sf cf sn cn) {B n : Nat} {v : Value} {xs : List Value} (ho : W.ownsRow B 3 1 v n xs) (hB : W0.heap.size ≤ B) (hX : ∀ j, v.ownBlock = some j → ¬ X j) (hg : W.grownBy W' v.ownBlock) : BX W0 W' o X k fs t hs sf cf sn cn := by
 rcases hv : v.ownBlock with _ | g
 ·rw [hv] at hg; exact h.grow hg
 ·rw [hv] at hg
  rcases ho.2 with ⟨rfl, _⟩ | ⟨b, cap, cur, rfl, hb, hh, _⟩
  ·simp [Value.ownBlock] at hv
  ·have e : b = g := by simpa [Value.ownBlock] using hv
   subst e
   exact h.put hg hh (hX b hv) (Nat.le_trans hB hb)
structure DSt (W0 W : World) (o : Nat) (X : Nat → Prop) (k m : Nat) (l : List (List Bool)) (gs : List Nat) (fs : List Bool) (t : List (List Int)) (hs : List Value) (sf : Option Addr) (cf : Nat) (sn : Option Addr) (cn : Nat) (ss : Option Addr) (sc : Nat) : Prop where
 bx : BX W0 W o X k fs t hs sf cf sn cn
 own : W.ownsRow W0.heap.size 46 1 (.slice ss l.length sc) l.length (gs.map (setV m))
 len : gs.length = l.length
 row : ∀ j, j < l.length → Arr W (gs.getD j 0) 4 (bls (l.getD j []))
 lo : ∀ g ∈ gs, W0.heap.size ≤ g
 sep : ∀ g ∈ gs, (Value.slice sf fs.length cf).ownBlock ≠ some g
 ll : ∀ x ∈ l, x.length = m
section
variable {W0 W W' : World} {o k m : Nat} {X : Nat → Prop} {l : List (List Bool)} {gs : List Nat} {fs : List Bool} {t : List (List Int)} {hs : List Value} {sf : Option Addr} {cf : Nat} {sn : Option Addr} {cn : Nat} {ss : Option Addr} {sc : Nat}
theorem DSt.getG (h : DSt W0 W o X k m l gs fs t hs sf cf sn cn ss sc) {j : Nat} (hj : j < l.length) : gs.getD j 0 ∈ gs := by
 rw [zI (by rw [h.len]; exact hj)]; exact List.getElem_mem _
theorem DSt.grow (h : DSt W0 W o X k m l gs fs t hs sf cf sn cn ss sc) (hg : W.grownBy W' none) : DSt W0 W' o X k m l gs fs t hs sf cf sn cn ss sc :=
 ⟨h.bx.grow hg, yB h.own hg, h.len, fun j hj => (h.row j hj).kept hg (by simp), h.lo, h.sep, h.ll⟩
theorem DSt.hd (h : DSt W0 W o X k m l gs fs t hs sf cf sn cn ss sc) (h0 : 0 < l.length) : ∃ hq, ss = some ⟨hq, 0, none⟩ ∧ l.length ≤ sc ∧ sc ≤ maxLen ∧ ∀ j, j < l.length → W.cell? ⟨hq, j, none⟩ = some (.slice (some ⟨gs.getD j 0, 0, none⟩) m m) := by
 obtain ⟨hq, e, h1, h2, h3⟩ := tV h.own h0
 refine ⟨hq, e, h1, h2, fun j hj => ?_⟩
 have hj' : j < gs.length := by rw [h.len]; exact hj
 rw [h3.cell j (by simpa using hj')]
 simp [setV, List.getElem?_eq_getElem hj']
theorem DSt.pushS (h : DSt W0 W o X k m l gs fs t hs sf cf sn cn ss sc) {n G : Nat} (hn : l.length = n) {T : List Bool} (hT : T.length = m) (hA : Arr W G 4 (bls T)) (hG : W0.heap.size ≤ G) (hF : (Value.slice sf fs.length cf).ownBlock ≠ some G) {ss' : Option Addr} {sc' : Nat} (ho : W'.ownsRow W0.heap.size 46 1 (.slice ss' (n + 1) sc') (n + 1) (gs.map (setV m) ++ [setV m G])) (hg : W.grownBy W' (Value.slice ss n sc).ownBlock) :
  DSt W0 W' o X k m (l ++ [T]) (gs ++ [G]) fs t hs sf cf sn cn ss' sc' := by
 subst hn
 have hrow : ∀ {g : Nat} {xs : List Value}, Arr W g 4 xs → Arr W' g 4 xs := fun ha => by
  obtain ⟨c, r, hc, hh⟩ := id ha
  exact ha.kept hg (zM h.own hc (by decide))
 have hz := hg.size
 have hX2 : ∀ j, (Value.slice ss l.length sc).ownBlock = some j → xV W 3 j := xE h.own (by decide)
 refine ⟨⟨fun j hj => by have := h.bx.lt j hj; omega, zA h.bx.box hg (zM h.own h.bx.box (by decide)), h.bx.ownF.kept hg (uP h.bx.ownF h.own (by decide)), h.bx.ownN.kept hg (uP h.bx.ownN h.own (by decide)), h.bx.rows.keptT hg hX2, h.bx.lo, zB h.bx.grown hg (fun j e => (h.own.lt j e).1)⟩, ?_, by simp [h.len], fun j hj => ?_, fun g hg' => ?_, fun g hg' => ?_, fun x hx => ?_⟩
 ·rw [List.length_append, List.map_append]; exact ho
 ·rw [List.length_append] at hj
  by_cases e : j < l.length
  ·rw [yA (by rw [h.len]; exact e), yA e]
   exact hrow (h.row j e)
  ·have e2 : j = l.length := by simp at hj; omega
   subst e2
   have e3 : (gs ++ [G]).getD l.length 0 = G := by rw [← h.len, List.getD_eq_getElem?_getD]; simp
   have e4 : (l ++ [T]).getD l.length [] = T := by rw [List.getD_eq_getElem?_getD]; simp
   rw [e3, e4]; exact hrow hA
 ·rcases List.mem_append.1 hg' with hh | hh
  ·exact h.lo g hh
  ·simp at hh; subst hh; exact hG
 ·rcases List.mem_append.1 hg' with hh | hh
  ·exact h.sep g hh
  ·simp at hh; subst hh; exact hF
 ·rcases List.mem_append.1 hx with hh | hh
  ·exact h.ll x hh
  ·simp at hh; subst hh; exact hT
theorem DSt.appI (h : DSt W0 W o X k m l gs fs t hs sf cf sn cn ss sc) {B n : Nat} {v : Value} {xs : List Value} (ho : W.ownsRow B 3 1 v n xs) (hB : W0.heap.size ≤ B) (hX : ∀ j, v.ownBlock = some j → ¬ X j) (hg : W.grownBy W' v.ownBlock) : DSt W0 W' o X k m l gs fs t hs sf cf sn cn ss sc :=
 ⟨h.bx.appI ho hB hX hg, h.own.kept hg (uP h.own ho (by decide)), h.len, fun j hj => by
  obtain ⟨c, r, hc, hh⟩ := id (h.row j hj)
  exact (h.row j hj).kept hg (zM ho hc (by decide)), h.lo, h.sep, h.ll⟩
theorem DSt.pushF (h : DSt W0 W o X k m l gs fs t hs sf cf sn cn ss sc) {n : Nat} (hn : fs.length = n) {b : Bool} {sf' : Option Addr} {cf' : Nat} (ho : W'.ownsRow o 4 1 (.slice sf' (n + 1) cf') (n + 1) (bls fs ++ [.bool b])) (hg : W.grownBy W' (Value.slice sf n cf).ownBlock) (hm : lC W W' (.slice sf n cf) (.slice sf' (n + 1) cf')) {W2 : World} (hW2 : W2 = W'.setCell ⟨o, 2, none⟩ (.slice sf' (n + 1) cf')) :
  DSt W0 W2 o X k m l gs (fs ++ [b]) t hs sf' cf' sn cn ss sc := by
 have hp := h.bx.pushF hn ho hg hW2
 subst hn
 have hb := zA h.bx.box hg (zM h.bx.ownF h.bx.box (by decide))
 have g2 := zC W' ⟨o, 2, none⟩ (.slice sf' (fs.length + 1) cf')
 rw [← hW2] at g2
 have hO1 := h.own.kept hg (uP h.own h.bx.ownF (by decide))
 refine ⟨hp, hO1.kept g2 (.inr (zM hO1 hb (by decide))), h.len, fun j hj => ?_, h.lo, fun g hgm => ?_, h.ll⟩
 ·have h1 := (h.row j hj).kept hg (h.sep _ (h.getG hj))
  exact h1.kept g2 (fun e => h1.type_ne hb (by decide) (Option.some.inj e).symm)
 ·rw [List.length_append]
  show (Value.slice sf' (fs.length + 1) cf').ownBlock ≠ some g
  rcases hm with h1 | ⟨_, h1⟩
  ·rw [h1]; exact h.sep g hgm
  ·intro e
   have := h1 g e
   obtain ⟨j, hj, e2⟩ := List.getElem_of_mem hgm
   have hj' : j < l.length := by rw [← h.len]; exact hj
   have := (h.row j hj').lt
   rw [zI hj, e2] at this
   omega
theorem DSt.pushN (h : DSt W0 W o X k m l gs fs t hs sf cf sn cn ss sc) {n : Nat} (hn : t.length = n) {rv : Value} {row : List Int} {sn' : Option Addr} {cn' : Nat} {Y : Nat → Prop} (hXY : ∀ j, X j → Y j) (hY : ∀ j, Y j → j < W.heap.size) (ho : W'.ownsRow o 30 1 (.slice sn' (n + 1) cn') (n + 1) (hs ++ [rv])) (hg : W.grownBy W' (Value.slice sn n cn).ownBlock) (hrow : RowX Y 3 W rv (ints row)) {W2 : World} (hW2 : W2 = W'.setCell ⟨o, 3, none⟩ (.slice sn' (n + 1) cn')) :
  DSt W0 W2 o Y k m l gs fs (t ++ [row]) (hs ++ [rv]) sf cf sn' cn' ss sc := by
 have hp := h.bx.pushN hn hXY hY ho hg hrow hW2
 subst hn
 have hb := zA h.bx.box hg (zM h.bx.ownN h.bx.box (by decide))
 have g2 := zC W' ⟨o, 3, none⟩ (.slice sn' (t.length + 1) cn')
 rw [← hW2] at g2
 have hO1 := h.own.kept hg (uP h.own h.bx.ownN (by decide))
 refine ⟨hp, hO1.kept g2 (.inr (zM hO1 hb (by decide))), h.len, fun j hj => ?_, h.lo, h.sep, h.ll⟩
 obtain ⟨c, r, hc, hh⟩ := id (h.row j hj)
 have h1 := (h.row j hj).kept hg (zM h.bx.ownN hc (by decide))
 exact h1.kept g2 (fun e => h1.type_ne hb (by decide) (Option.some.inj e).symm)
end
def rFs (bs : List (List Nat)) (l : List (List Bool)) (i : Nat) : List Bool := (l.take i).map (finP bs)
def rTs (bs : List (List Nat)) (k : Nat) (l : List (List Bool)) (i : Nat) : List (List Int) := (l.take i).map (tA (nxtB bs) k l)
def pL (bs : List (List Nat)) (l : List (List Bool)) (S : List Bool) (a : Nat) : List Nat := (List.range a).map fun b => l.idxOf (nxtB bs S b)
theorem rFs_len {bs : List (List Nat)} {l : List (List Bool)} {i : Nat} (h : i ≤ l.length) : (rFs bs l i).length = i := by simp [rFs]; omega
theorem rTs_len {bs : List (List Nat)} {k : Nat} {l : List (List Bool)} {i : Nat} (h : i ≤ l.length) : (rTs bs k l i).length = i := by simp [rTs]; omega
theorem rFs_next {bs : List (List Nat)} {l : List (List Bool)} {i : Nat} (h : i < l.length) : rFs bs l (i + 1) = rFs bs l i ++ [finP bs (l.getD i [])] := by
 rw [rFs, zY (d := []) h, List.map_append]; rfl
theorem rTs_next {bs : List (List Nat)} {k : Nat} {l : List (List Bool)} {i : Nat} (h : i < l.length) : rTs bs k l (i + 1) = rTs bs k l i ++ [tA (nxtB bs) k l (l.getD i [])] := by
 rw [rTs, zY (d := []) h, List.map_append]; rfl
theorem rFs_more {bs : List (List Nat)} {l m : List (List Bool)} {i : Nat} (h : i ≤ l.length) : rFs bs (l ++ m) i = rFs bs l i := by
 rw [rFs, List.take_append_of_le_length h]; rfl
theorem rTs_more {bs : List (List Nat)} {k : Nat} {s0 : List Bool} {l m : List (List Bool)} {i a : Nat} (h : BfsI (nxtB bs) k s0 l i a) : rTs bs k (l ++ m) i = rTs bs k l i := by
 rw [rTs, List.take_append_of_le_length h.le]
 refine List.map_congr_left fun x hx => bfsRow_more ?_
 obtain ⟨j, hj, e⟩ := List.getElem_of_mem hx
 rw [List.getElem_take] at e
 rw [List.length_take] at hj
 exact h.cl j x (by omega) (by rw [List.getElem?_eq_getElem (by omega), e])
theorem rowTo_more {bs : List (List Nat)} {k : Nat} {s0 : List Bool} {l m : List (List Bool)} {i a : Nat} (h : BfsI (nxtB bs) k s0 l i a) (hi : i < l.length) (ha : a ≤ k) : pL bs (l ++ m) (l.getD i []) a = pL bs l (l.getD i []) a := by
 refine List.map_congr_left fun b hb => ?_
 have hb := List.mem_range.1 hb
 rw [List.idxOf_append, if_pos]
 exact h.row _ (by rw [zI hi, List.getElem?_eq_getElem hi]) b hb (by omega)
theorem lL (bs : List (List Nat)) (l : List (List Bool)) (S : List Bool) (a : Nat) : pL bs l S (a + 1) = pL bs l S a ++ [l.idxOf (nxtB bs S a)] := by simp [pL, List.range_succ]
theorem rowTo_full (bs : List (List Nat)) (l : List (List Bool)) (S : List Bool) (k : Nat) : nats (pL bs l S k) = ints (tA (nxtB bs) k l S) := by simp [nats, ints, pL, tA]
theorem idx_none {l : List (List Bool)} {T : List Bool} (h : ∀ j, j < l.length → l.getD j [] ≠ T) : T ∉ l := fun hm => by
 obtain ⟨j, hj, e⟩ := List.getElem_of_mem hm
 exact h j hj (by rw [zI hj]; exact e)
theorem idx_first {l : List (List Bool)} {T : List Bool} : ∀ {i : Nat}, i < l.length → l.getD i [] = T → (∀ j, j < i → l.getD j [] ≠ T) → l.idxOf T = i := by
 induction l with
 | nil => intro i hi; simp at hi
 | cons x l ih =>
  intro i hi he hj
  cases i with
  | zero =>
   have : x = T := by simpa using he
   rw [this]; simp
  | succ i =>
   have h0 : x ≠ T := by simpa using hj 0 (by omega)
   rw [List.idxOf_cons]
   have hb : (x == T) = false := by rw [beq_eq_false_iff_ne]; exact h0
   rw [hb]
   have := ih (i := i) (by simpa using hi) (by simpa using he) (fun j hj' => by simpa using hj (j + 1) (by omega))
   simp [this]
end Go.Proofs.Ytgbfaggnnfoamaa
namespace Go.Proofs.Ytgbfaggnnfoamaa
def inBlk (n : Nat) : Code → Option Code
 | .block i c => if i = n then some c else inBlk n c
 | .seq a b => match inBlk n a with
  | some c => some c
  | none => inBlk n b
 | .cond _ a b => match inBlk n a with
  | some c => some c
  | none => inBlk n b
 | .loop c => inBlk n c
 | .scope c => inBlk n c
 | _ => none
noncomputable def blk (f : Func) (n : Nat) : Code := (f.body.bind (inBlk n)).getD .skip
def inReg (n : Nat) : Code → Option Code
 | .region i o d => if i = n then some (.region i o d) else none
 | .block _ c => inReg n c
 | .seq a b => match inReg n a with
  | some c => some c
  | none => inReg n b
 | .cond _ a b => match inReg n a with
  | some c => some c
  | none => inReg n b
 | .loop c => inReg n c
 | .scope c => inReg n c
 | _ => none
noncomputable def reg (f : Func) (n : Nat) : Code := (f.body.bind (inReg n)).getD .skip
end Go.Proofs.Ytgbfaggnnfoamaa
