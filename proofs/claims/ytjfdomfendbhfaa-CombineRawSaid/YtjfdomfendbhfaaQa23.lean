/- Part 23 of the proof: BB0, BB, BRow, BPre, Made, MadeWord, Repeat. -/
import Derived.Test.YtjfdomfendbhfaaQa22
import Derived.Laws.IdiomCopy
import Derived.BigRegion
import Derived.Lib.MakeNoZero
import Derived.Lib.SlBuf
import Derived.Laws.Externs
set_option linter.unusedVariables false
set_option linter.unusedSimpArgs false
namespace Go.Proofs.Ytjfdomfendbhfaa
open Go.RowKit
theorem getD_memN {gs : List Nat} {i : Nat} (h : i < gs.length) : gs.getD i 0 ∈ gs := by rw [zF h]; exact List.getElem_mem h
theorem nodupN_getD {gs : List Nat} (hn : gs.Nodup) {i j : Nat} (hi : i < gs.length) (hj : j < gs.length) (e : gs.getD i 0 = gs.getD j 0) : i = j := by
 rw [zF hi, zF hj] at e
 rw [← hn.idxOf_getElem i hi, e, hn.idxOf_getElem j hj]
theorem set_getD_same {α : Type} {l : List α} {i : Nat} {x y : α} (h : i < l.length) : (l.set i x).getD i y = x := by
 rw [zF (by simpa using h)]; simp
theorem set_getD_ne {α : Type} {l : List α} {i j : Nat} {x y : α} (h : i ≠ j) : (l.set i x).getD j y = l.getD j y := by
 simp only [List.getD_eq_getElem?_getD]
 rw [List.getElem?_set_ne h]
theorem rD {α : Type} {l : List α} {x y : α} {n : Nat} (h : n = l.length) : (l ++ [x]).getD n y = x := by
 subst h
 rw [zF (by simp)]; simp
theorem snoc_set {α : Type} {l : List α} {x y : α} {n : Nat} (h : n = l.length) : (l ++ [x]).set n y = l ++ [y] := by
 subst h
 rw [List.set_append_right _ _ (Nat.le_refl _), Nat.sub_self]; rfl
def zH (s : ByteArray) : List Nat := s.data.toList.map fun c => c.toNat - 97
theorem yR (s : ByteArray) : (zH s).length = s.size := by simp [zH]
theorem pU {s : ByteArray} {i : Nat} (h : i < s.size) : (zH s).getD i 0 = s[i].toNat - 97 := by
 rw [zF (by rw [yR]; exact h)]
 simp [zH]; rfl
theorem jD {k : Nat} {c : UInt8} : sA (k : Int) c = true ↔ 97 ≤ c.toNat ∧ c.toNat - 97 < k := by
 unfold sA
 rw [decide_eq_true_eq]; omega
theorem tG {s : ByteArray} {k : Nat} (h : zP s (k : Int) = true) : yA k (zH s) ∧ (∀ i (hi : i < s.size), 97 ≤ s[i].toNat ∧ s[i].toNat - 97 < k) ∧ s.size ≤ 2048 := by
 simp only [zP, Bool.and_eq_true, decide_eq_true_eq, List.all_eq_true] at h
 refine ⟨fun a ha => ?_, fun i hi => ?_, h.1.2.2⟩
 ·obtain ⟨c, hc, rfl⟩ := List.mem_map.1 ha
  exact (jD.1 (h.2 c hc)).2
 ·have hm : s[i] ∈ s.data.toList := by
   have : s[i] = s.data.toList[i]'(by simpa using hi) := by simp; rfl
   rw [this]; exact List.getElem_mem _
  exact jD.1 (h.2 _ hm)
theorem u8_sub {c : Nat} (h : 97 ≤ c) (h2 : c < 256) : IntKind.u8.wrap ((c : Int) - 97) = ((c - 97 : Nat) : Int) := by
 unfold IntKind.wrap; simp [IntKind.bits, IntKind.signed]; omega
def rowv (k g : Nat) : Value := .slice (some ⟨g, 0, none⟩) k k
structure BB (W0 W : World) (bb k : Nat) (t : List (List Nat)) (gs : List Nat) (sn : Option Addr) (cn : Nat) : Prop where
 box : W.heap[bb]? = some (.cells #[.int .i64 (k : Int), .slice sn t.length cn] 162 (0, 0))
 own : W.ownsRow bb 34 1 (.slice sn t.length cn) t.length (gs.map (rowv k))
 len : gs.length = t.length
 row : ∀ i, i < t.length → Arr W (gs.getD i 0) 3 (nats (t.getD i [])) ∧ (t.getD i []).length = k
 nd : gs.Nodup
 lo : W0.heap.size ≤ bb
 glo : ∀ g ∈ gs, W0.heap.size ≤ g
 grown : W0.grownBy W none
section
variable {W0 W W' : World} {bb k : Nat} {t : List (List Nat)} {gs : List Nat} {sn : Option Addr} {cn : Nat}
theorem BB.start {bb k : Nat} (hb : W.heap[bb]? = some (.cells #[.int .i64 (k : Int), .slice none 0 0] 162 (0, 0))) (h0 : W0.heap.size ≤ bb) (hg : W0.grownBy W none) : BB W0 W bb k [] [] none 0 :=
 ⟨hb, World.ownsRow_nil _ _ _ _, rfl, fun i hi => by simp at hi, by simp, h0, by simp, hg⟩
theorem BB.cells (h : BB W0 W bb k t gs sn cn) : W.cell? ⟨bb, 0, none⟩ = some (.int .i64 (k : Int)) ∧ W.cell? ⟨bb, 1, none⟩ = some (.slice sn t.length cn) ∧ W.frozen? ⟨bb, 1, none⟩ = false := by
 have c0 := zI h.box 0 (by simp)
 have c1 := zI h.box 1 (by simp)
 exact ⟨by simpa using c0, by simpa using c1, zD h.box 1⟩
theorem BB.grow (h : BB W0 W bb k t gs sn cn) (hg : W.grownBy W' none) : BB W0 W' bb k t gs sn cn where
 box := zB h.box hg (by simp)
 own := zQ h.own hg
 len := h.len
 row := fun i hi => ⟨(h.row i hi).1.kept hg (by simp), (h.row i hi).2⟩
 nd := h.nd
 lo := h.lo
 glo := h.glo
 grown := zA h.grown hg (by simp)
theorem BB.hd (h : BB W0 W bb k t gs sn cn) (h0 : 0 < t.length) : ∃ q cap, sn = some ⟨q, 0, none⟩ ∧ cn = cap ∧ t.length ≤ cap ∧ cap ≤ maxLen ∧ ∀ i, i < t.length → W.cell? ⟨q, i, none⟩ = some (rowv k (gs.getD i 0)) := by
 rcases id h.own.2 with ⟨e, _⟩ | ⟨q, cap, cur, e, _, _, hnc, hcm, _⟩
 ·simp only [Value.slice.injEq] at e; omega
 ·simp only [Value.slice.injEq] at e
  obtain ⟨rfl, _, rfl⟩ := e
  refine ⟨q, cn, rfl, rfl, hnc, hcm, fun i hi => ?_⟩
  have hi2 : i < gs.length := by rw [h.len]; exact hi
  rw [h.own.cellAt i (by omega), List.getElem?_map, List.getElem?_eq_getElem hi2, zF hi2]; rfl
theorem BB.set (h : BB W0 W bb k t gs sn cn) {i : Nat} (hi : i < t.length) {r : List Nat} (hr : r.length = k) (hg : W.grownBy W' (some (gs.getD i 0))) (ha : Arr W' (gs.getD i 0) 3 (nats r)) : BB W0 W' bb k (t.set i r) gs sn cn := by
 obtain ⟨cur, rest, hc, _⟩ := (h.row i hi).1
 have hne : gs.getD i 0 ≠ bb := fun e => by
  rw [e, h.box] at hc
  simp only [Option.some.injEq, Obj.cells.injEq] at hc
  exact absurd hc.2.1 (by decide)
 have hil : i < gs.length := by rw [h.len]; exact hi
 refine ⟨?_, ?_, by rw [List.length_set]; exact h.len, fun j hj => ?_, h.nd, h.lo, h.glo, zA h.grown hg (fun q e => by have := Option.some.inj e; subst this; exact h.glo _ (getD_memN hil))⟩
 ·rw [List.length_set]; exact zB h.box hg (fun e => hne (Option.some.inj e))
 ·rw [List.length_set]; exact h.own.kept hg (.inr (zR h.own hc (by decide)))
 ·rw [List.length_set] at hj
  by_cases e : i = j
  ·subst e
   rw [set_getD_same hi]
   exact ⟨ha, hr⟩
  ·rw [set_getD_ne e]
   exact ⟨(h.row j hj).1.kept hg (fun e2 => e (nodupN_getD h.nd hil (by rw [h.len]; exact hj) (Option.some.inj e2))), (h.row j hj).2⟩
theorem BB.put (h : BB W0 W bb k t gs sn cn) {i j : Nat} (hi : i < t.length) (hj : j < k) (c : Nat) : BB W0 (W.setCell ⟨gs.getD i 0, j, none⟩ (.int .i64 (c : Int))) bb k (t.set i ((t.getD i []).set j c)) gs sn cn := by
 have hr := h.row i hi
 exact h.set hi (by rw [List.length_set]; exact hr.2) (zC W ⟨gs.getD i 0, j, none⟩ _) (hr.1.nat_set j (by rw [hr.2]; exact hj) c)
theorem BB.off (h : BB W0 W bb k t gs sn cn) {g : Nat} {c : Array Value} {m : Nat × Nat} (hg : W.grownBy W' (some g)) (hc : W.heap[g]? = some (.cells c 3 m)) (hn : g ∉ gs) (h0 : W0.heap.size ≤ g) : BB W0 W' bb k t gs sn cn where
 box := zB h.box hg (fun e => by
  have := Option.some.inj e
  subst this
  rw [h.box] at hc
  simp only [Option.some.injEq, Obj.cells.injEq] at hc
  exact absurd hc.2.1 (by decide))
 own := h.own.kept hg (.inr (zR h.own hc (by decide)))
 len := h.len
 row := fun i hi => ⟨(h.row i hi).1.kept hg (fun e => hn (by rw [Option.some.inj e]; exact getD_memN (by rw [h.len]; exact hi))), (h.row i hi).2⟩
 nd := h.nd
 lo := h.lo
 glo := h.glo
 grown := zA h.grown hg (fun q e => by have := Option.some.inj e; omega)
theorem BB.lt (h : BB W0 W bb k t gs sn cn) : ∀ g ∈ gs, g < W.heap.size := fun g hg => by
 obtain ⟨i, hi, rfl⟩ := List.getElem_of_mem hg
 have := (h.row i (by rw [← h.len]; exact hi)).1.lt
 rwa [zF hi] at this
theorem BB.push (h : BB W0 W bb k t gs sn cn) {g : Nat} {r : List Nat} {sn' : Option Addr} {cn' : Nat} (hr : r.length = k) (ha : Arr W g 3 (nats r)) (hgn : ∀ x ∈ gs, x ≠ g) (hg0 : W0.heap.size ≤ g) (ho : W'.ownsRow bb 34 1 (.slice sn' (t.length + 1) cn') (t.length + 1) (gs.map (rowv k) ++ [rowv k g])) (hg : W.grownBy W' (Value.slice sn t.length cn).ownBlock) {W2 : World} (hW2 : W2 = W'.setCell ⟨bb, 1, none⟩ (.slice sn' (t.length + 1) cn')) :
  BB W0 W2 bb k (t ++ [r]) (gs ++ [g]) sn' cn' := by
 have hb := zB h.box hg (zR h.own h.box (by decide))
 have hs2 := heap_setCell_same W' bb 1 _ _ (.slice sn' (t.length + 1) cn') hb
 have g2 := zC W' ⟨bb, 1, none⟩ (.slice sn' (t.length + 1) cn')
 rw [← hW2] at hs2 g2
 have hint : ∀ {q : Nat} {xs : List Value}, Arr W q 3 xs → Arr W2 q 3 xs := fun {q xs} hq => by
  obtain ⟨cu, rs, hc, _⟩ := id hq
  exact (hq.kept hg (zR h.own hc (by decide))).kept g2 (fun e => by
   have e : bb = q := Option.some.inj e
   subst e
   rw [h.box] at hc
   simp only [Option.some.injEq, Obj.cells.injEq] at hc
   exact absurd hc.2.1 (by decide))
 have e1 : (t ++ [r]).length = t.length + 1 := by simp
 refine ⟨?_, ?_, by simp [h.len], fun i hi => ?_, ?_, h.lo, ?_, zA (zA h.grown hg (fun j e => Nat.le_trans h.lo (h.own.lt j e).1)) g2 (fun j e => by have e : bb = j := Option.some.inj e; have := h.lo; omega)⟩
 ·rw [hs2, e1]; simp
 ·rw [e1, List.map_append]; exact ho.kept g2 (.inr (zR ho hb (by decide)))
 ·rw [e1] at hi
  by_cases hi' : i < t.length
  ·rw [yC (by rw [h.len]; exact hi'), yC hi']
   exact ⟨hint (h.row i hi').1, (h.row i hi').2⟩
  ·have : i = t.length + 0 := by omega
   rw [this, xE]
   rw [show (gs ++ [g]).getD (t.length + 0) 0 = g by rw [← h.len, xE]; rfl]
   exact ⟨hint ha, hr⟩
 ·rw [List.nodup_append]
  exact ⟨h.nd, by simp, fun x hx y hy e => by simp at hy; subst hy; exact hgn x hx e⟩
 ·intro x hx
  rcases List.mem_append.1 hx with hx | hx
  ·exact h.glo x hx
  ·simp at hx; subst hx; exact hg0
end
section
variable {W0 W W' : World} {bb k : Nat} {t : List (List Nat)} {gs : List Nat} {sn : Option Addr} {cn : Nat} {r : List Nat} {g : Nat}
theorem BB.lastlen (h : BB W0 W bb k (t ++ [r]) (gs ++ [g]) sn cn) : gs.length = t.length := by have := h.len; simp at this; exact this
theorem BB.last (h : BB W0 W bb k (t ++ [r]) (gs ++ [g]) sn cn) : Arr W g 3 (nats r) ∧ r.length = k := by
 have := h.row t.length (by simp)
 rwa [rD rfl, rD h.lastlen.symm] at this
theorem BB.putLast (h : BB W0 W bb k (t ++ [r]) (gs ++ [g]) sn cn) {j : Nat} (hj : j < k) (c : Nat) : BB W0 (W.setCell ⟨g, j, none⟩ (.int .i64 (c : Int))) bb k (t ++ [r.set j c]) (gs ++ [g]) sn cn := by
 have := h.put (i := t.length) (by simp) hj c
 rwa [rD rfl, rD h.lastlen.symm, snoc_set rfl] at this
end
def RowAdded (W0 : World) (bb k : Nat) (t : List (List Nat)) (gs : List Nat) (u0 : Nat) (e : Ending) (W' : World) : Prop :=
 ∃ g sn cn, e = .returned (.slice (some ⟨g, 0, none⟩) k k) ∧ BB W0 W' bb k (t ++ [List.replicate k u0]) (gs ++ [g]) sn cn
set_option maxRecDepth 100000 in
set_option maxHeartbeats 800000 in
theorem sX (W0 W : World) (bb k : Nat) (t : List (List Nat)) (gs : List Nat) (sn : Option Addr) (cn u0 : Nat) (h : BB W0 W bb k t gs sn cn) (hk1 : 1 ≤ k) (hk6 : k ≤ 6) (ht : t.length ≤ 1000) :
  Calls Try.prog 106 #[.pointer (some ⟨bb, 0, none⟩), .int .i64 (u0 : Int)] W (RowAdded W0 bb k t gs u0) := by
 obtain ⟨c0, c1, f1⟩ := h.cells
 have H := Kh h
 clear h
 go_enter Try.func106, Try.ntmps106
 go_wp2_with (first | (at_make; refine make1 rfl _ _ _ rfl xU rfl .i64 .i64 _ _ k rfl rfl rfl rfl ?b1 ?b2 ?_; (case b1 => omega); (case b2 => (unfold maxLen; omega)); intro w2 harr hg2 hlt2) | fail)
 obtain ⟨g, hg⟩ : ∃ g, g = W.heap.size := ⟨_, rfl⟩
 rw [← hg] at harr hlt2 ⊢
 have HB2 := Kh (H.out.grow hg2)
 have hgn : g ∉ gs := fun hm => by have := H.out.lt g hm; omega
 have hg0 : W0.heap.size ≤ g := by have := H.out.grown.size; omega
 have HA2 : Hid (Arr w2 g 3 (nats (List.replicate 0 u0 ++ List.replicate (k - 0) 0))) := Kh (by
  rw [show List.replicate 0 u0 ++ List.replicate (k - 0) 0 = List.replicate k 0 by simp, xO]; exact harr)
 have HGN := Kh hgn
 clear harr hg2 hg hgn c0 c1 f1 hlt2
 go_loopg [6, 14] k (fun gh a6 i wr => ∃ x : Nat, gh + x = k ∧ i = .int .i64 x ∧ Arr wr g 3 (nats (List.replicate x u0 ++ List.replicate (k - x) 0)) ∧ w2.grownBy wr (some g))
 case atStart => exact ⟨0, rfl, rfl, HA2.out, zK _ _⟩
 case round =>
  obtain ⟨x, hgh, rfl, harr, hgr⟩ := hrel
  have HGH := Kh hgh; have HA := Kh harr; have HGR := Kh hgr
  clear hgh
  have hrl : (List.replicate x u0 ++ List.replicate (k - x) 0).length = k := by
   have := HGH.out; simp; omega
  by_cases hx : x < k
  ·have hx' : (x : Int) < k := by omega
   have cx := harr.nat x (by omega)
   have fx := harr.frozen x
   have hset : (List.replicate x u0 ++ List.replicate (k - x) 0).set x u0 = List.replicate (x + 1) u0 ++ List.replicate (k - (x + 1)) 0 := by
    rw [List.set_append_right _ _ (by simp), List.length_replicate, Nat.sub_self, show k - x = (k - (x + 1)) + 1 by omega, List.replicate_succ, List.set_cons_zero, List.replicate_succ', List.append_assoc]
    rfl
   have HSET := Kh hset
   have HRL := Kh hrl
   clear harr hgr hset hrl
   go_wp2
   go_roundg (k - (x + 1))
   case measure => have := HGH.out; omega
   case rel => exact ⟨x + 1, by have := HGH.out; omega, by go_num, by rw [← HSET.out]; exact HA.out.nat_set x (by rw [HRL.out]; exact hx) u0, zE HGR.out (zC wr ⟨g, x, none⟩ _)⟩
  ·have hxk : x = k := by have := HGH.out; omega
   subst hxk
   have hr : List.replicate x u0 ++ List.replicate (x - x) 0 = List.replicate x u0 := by simp
   rw [hr] at HA
   obtain ⟨cur, rest, hcur, _⟩ := HA2.out
   have HBR := Kh (HB2.out.off hgr hcur HGN.out hg0)
   obtain ⟨c0, c1, f1⟩ := HBR.out.cells
   clear hcur hrl hr harr HA2 HB2
   have hbz := zJ HBR.out.box
   go_wp2_with (first | (at_builtin; refine app1s rfl _ _ _ rfl nY bb (.slice sn t.length cn) t.length (gs.map (rowv x)) rfl HBR.out.own (rowv x g) rfl rfl ?a1 ?a2 ?a3 ?_; (case a1 => (unfold maxLen; omega)); (case a2 => omega); (case a3 => omega); intro sn6 cn6 w6 hown6 hg6 hz6 hmv6; (have HO6 := Kh hown6); (have HG6 := Kh hg6); (have hb6 := zB HBR.out.box hg6 (zR HBR.out.own HBR.out.box (by decide))); (have hc6 : w6.cell? ⟨bb, 1, none⟩ = some (.slice sn t.length cn) := by simpa using zI hb6 1 (by simp)); (have hf6 := zD hb6 1); clear hown6 hg6 hmv6 hb6) | fail)
   go_ret
   exact ⟨g, sn6, cn6, rfl, HBR.out.push (by simp) HA.out (fun y hy e => HGN.out (e ▸ hy)) hg0 HO6.out HG6.out rfl⟩
def preN (k : Nat) (b : List Nat) (j : Nat) : List Nat := (List.range k).map fun a => if b.getD j 0 = a then 2 + j else 0
def tD (k : Nat) (b : List Nat) (m : Nat) : List (List Nat) := (List.range m).map (preN k b)
theorem set_replicate {k a c : Nat} : (List.replicate k 0).set a c = (List.range k).map fun i => if a = i then c else 0 := by
 refine List.ext_getElem (by simp) fun i h1 h2 => ?_
 rw [List.getElem_set]; simp
theorem preNs_succ (k : Nat) (b : List Nat) (m : Nat) : tD k b (m + 1) = tD k b m ++ [preN k b m] := by
 simp [tD, List.range_succ]
def RowsLeft (W0 : World) (bb k : Nat) (t : List (List Nat)) (e : Ending) (W' : World) : Prop := ∃ gs sn cn, e = .returned (.tuple #[]) ∧ BB W0 W' bb k t gs sn cn
set_option maxRecDepth 100000 in
set_option maxHeartbeats 800000 in
theorem bprefix_any (W0 W : World) (bb k : Nat) (t : List (List Nat)) (gs : List Nat) (sn : Option Addr) (cn : Nat) (u : ByteArray) (h : BB W0 W bb k t gs sn cn) (ht : t.length = 1) (hk1 : 1 ≤ k) (hk6 : k ≤ 6) (hu : zP u (k : Int) = true) (hl : u.size ≤ 64) :
  Calls Try.prog 107 #[.pointer (some ⟨bb, 0, none⟩), .string u] W (RowsLeft W0 bb k (t ++ tD k (zH u) u.size)) := by
 have H := Kh h
 have HU := Kh (tG hu)
 have hl1 : t.length ≤ 1 := by omega
 have HT := Kh ht
 clear h hu ht
 go_enter Try.func107, Try.ntmps107
 go_wp2_with fail
 go_loopg [4, 5, 8] u.size (fun gh a4 a5 i wr => ∃ (j : Nat) (gs : List Nat) (sn : Option Addr) (cn : Nat), gh + j = u.size ∧ i = .int .i64 j ∧ BB W0 wr bb k (t ++ tD k (zH u) j) gs sn cn)
 case atStart => exact ⟨0, gs, sn, cn, rfl, rfl, by simpa [tD] using H.out⟩
 case round =>
  clear H
  obtain ⟨j, gs, sn, cn, hgh, rfl, hbb⟩ := hrel
  have HGH := Kh hgh; have HBB := Kh hbb
  clear hgh
  by_cases hj : j < u.size
  ·have hj' : (j : Int) < u.size := by omega
   have htl : (t ++ tD k (zH u) j).length = j + 1 := by have := HT.out; simp [tD]; omega
   have HTL := Kh htl
   go_wp2_with fail
   refine (sX W0 wr bb k _ gs sn cn 0 hbb hk1 hk6 (by omega)).mono ?_
   rintro e w1 ⟨g, sn1, cn1, rfl, hb1⟩
   obtain ⟨c0, c1, f1⟩ := hb1.cells
   have hr := hb1.last
   rw [List.length_append, htl] at c1
   have hb := HU.out.2.1 j hj
   obtain ⟨by0, hby⟩ : ∃ b, b = u[j].toNat := ⟨_, rfl⟩
   have h256 : by0 < 256 := by rw [hby]; exact u[j].toNat_lt
   rw [← hby] at hb
   obtain ⟨a, ha⟩ : ∃ a, a = by0 - 97 := ⟨_, rfl⟩
   have hu8 := u8_sub hb.1 h256
   rw [← ha] at hu8
   have hu8' : ((by0 : Int) - 97) % 256 = (a : Int) := by omega
   have hak : a < k := by omega
   have hak' : (a : Int) < k := by omega
   have ca := hr.1.nat a (by simp; omega)
   have fa := hr.1.frozen a
   have hlet : (zH u).getD j 0 = a := by rw [pU hj, ← hby, ha]
   have HL := Kh hlet; have HB1 := Kh hb1; have HR := Kh hr; 
   have hbys : (u[j].toNat : Int) = (by0 : Int) := by rw [hby]
   clear hb hby ha hr hbb hb1 hlet htl
   go_wp2_with fail
   go_region
   all_goals (try go_frame)
   all_goals go_wp2
   all_goals
    go_roundg (u.size - (j + 1))
    case measure => have := HGH.out; omega
    case rel =>
     have hp := (HB1.out.putLast hak (2 + j)).grow (zM _ none)
     have e : ((2 + j : Nat) : Int) = (j : Int) + 1 + 1 := by omega
     rw [e, set_replicate, ← HL.out, List.append_assoc] at hp
     rw [← HL.out]
     exact ⟨j + 1, gs ++ [g], sn1, cn1, by have := HGH.out; omega, by go_num, by rw [preNs_succ]; exact hp⟩
  ·have hju : j = u.size := by have := HGH.out; omega
   subst hju
   go_wp2
   exact bodyPost_ret (v := .tuple #[]) (by simp [results, Try.results107, go_sem]) rfl ⟨gs, sn, cn, rfl, hbb⟩
theorem Row.cut {B : Nat} {w : World} {b off cap : Nat} {xs : List Value} (n : Nat) (hn : n ≤ xs.length) (hb : b < B) (hc : xs.length ≤ cap) (hm : cap ≤ maxLen) (h : wO w b off xs) :
  Row B w (.slice (some ⟨b, off, none⟩) n cap) (xs.take n) :=
 .inr ⟨b, off, cap, by rw [List.length_take, Nat.min_eq_left hn], hb, by rw [List.length_take]; omega, hm, h.1, fun i hi => by
  rw [List.length_take] at hi
  rw [h.2 i (by omega), List.getElem_take]⟩
theorem elem_u8 : ElemOk Try.prog 106 5 (.int .u8 0) 1 := ⟨Try.underlying106, by kernel_rfl, rfl⟩
def okNum (letters : Int) (n : Int) : Prop := 97 ≤ n ∧ n < 97 + letters
theorem Arr.setCells {g : Nat} {e : TypeId} : ∀ (vs : List Value) (o : Nat) {w : World} {xs : List Value}, Arr w g e xs → o + vs.length ≤ xs.length → Arr (w.setCells g o vs) g e (xs.take o ++ vs ++ xs.drop (o + vs.length))
 | [], o, w, xs, h, _ => by simpa [World.setCells] using h
 | v :: r, o, w, xs, h, hl => by
  rw [List.length_cons] at hl
  have := Arr.setCells r (o + 1) (h.set o (by omega) v) (by rw [List.length_set]; omega)
  rw [World.setCells]
  have e1 : (xs.set o v).take (o + 1) = xs.take o ++ [v] := by
   rw [List.take_succ_eq_append_getElem (by rw [List.length_set]; omega), List.take_set_of_le (by omega)]
   simp
  rw [e1, List.drop_set_of_lt (by omega)] at this
  rw [List.length_cons, show o + (r.length + 1) = o + 1 + r.length by omega]
  simpa using this
end Go.Proofs.Ytjfdomfendbhfaa
