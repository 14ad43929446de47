/- Part 15 of the proof: Word, BB, BRow. -/
import Derived.Test.YtgbfaggnnfoamaaZi14
import Derived.Laws.IdiomCopy
import Derived.Deep.RegionLaw
set_option linter.unusedVariables false
set_option linter.unusedSimpArgs false
namespace Go.Proofs.Ytgbfaggnnfoamaa
open Go.RowKit
def uV (letters : Int) (c : UInt8) : Bool := decide (97 ≤ (c.toNat : Int) ∧ (c.toNat : Int) - 97 < letters)
def zU (s : ByteArray) (letters : Int) : Bool := decide (1 ≤ letters ∧ letters ≤ 6 ∧ s.size ≤ 2048) && s.data.toList.all (uV letters)
theorem tD (s : ByteArray) (letters : Int) (k : Nat) (hk : k < s.size) (h : (s[k].toNat : Int) < 97 ∨ letters ≤ ((s[k].toNat : Int) - 97) % 256) : zU s letters = false := by
 have hm : s[k] ∈ s.data.toList := by
  have : s[k] = s.data[k]'(by simpa using hk) := rfl
  rw [this]; simp
 have h2 : uV letters s[k] = false := by
  have := UInt8.toNat_lt s[k]
  simp [uV]; omega
 unfold zU
 rw [Bool.and_eq_false_iff]; right
 rw [List.all_eq_false]; exact ⟨_, hm, by simp [h2]⟩
theorem all_succ (s : ByteArray) (letters : Int) (k : Nat) (hk : k < s.size) (h : (s.data.toList.take k).all (uV letters) = true)
  (h1 : 97 ≤ (s[k].toNat : Int) ∧ ((s[k].toNat : Int) - 97) % 256 < letters) : (s.data.toList.take (k + 1)).all (uV letters) = true := by
 rw [List.take_succ_eq_append_getElem (by simpa using hk), List.all_append, h]
 have : s.data.toList[k]'(by simpa using hk) = s[k] := rfl
 have h3 := UInt8.toNat_lt s[k]
 simp [this, uV]; omega
theorem pF (s : ByteArray) (letters : Int) (k : Nat) (hk : s.size ≤ k) (h : 1 ≤ letters ∧ letters ≤ 6 ∧ s.size ≤ 2048) (ha : (s.data.toList.take k).all (uV letters) = true) : zU s letters = true := by
 rw [List.take_of_length_le (by simpa using hk)] at ha
 simp [zU, ha, h]
set_option maxHeartbeats 400000 in
theorem uL (s : ByteArray) (letters : Int) (w : World) (hs : s.size ≤ maxLen) :
  Calls Try.prog 36 #[.string s, .int .i64 letters] w fun e w' => e = .returned (.bool (zU s letters)) ∧ w = w' := by
 unfold maxLen at hs
 by_cases h1 : letters < 1
 ·go_enter Try.func36, Try.ntmps36
  go_wp2
  go_ret
  exact ⟨zW (by simp [zU]; omega), rfl⟩
 by_cases h2 : 6 < letters
 ·go_enter Try.func36, Try.ntmps36
  go_wp2
  go_ret
  exact ⟨zW (by simp [zU]; omega), rfl⟩
 by_cases h3 : 2048 < s.size
 ·go_enter Try.func36, Try.ntmps36
  go_wp2
  go_ret
  exact ⟨zW (by simp [zU]; omega), rfl⟩
 go_enter Try.func36, Try.ntmps36
 go_wp2
 go_loop [19] (fun i => ∃ k : Nat, k ≤ s.size ∧ i = .int .i64 k ∧ (s.data.toList.take k).all (uV letters) = true) (fun i => s.size - (intOf i).toNat)
 case atStart => exact ⟨0, Nat.zero_le _, rfl, rfl⟩
 case round =>
  obtain ⟨k, hk, rfl, hall⟩ := hrel
  have HA := Kh hall; clear hall
  by_cases hlt : k < s.size
  ·go_wp2
   ·go_ret
    exact ⟨zW (by rw [eq_comm]; exact tD s letters k hlt (by omega)), rfl⟩
   ·go_round
    case rel => exact ⟨k + 1, by omega, by go_num, all_succ s letters k hlt HA.out (by omega)⟩
    case measure => simp [intOf]; omega
   ·go_ret
    exact ⟨zW (by rw [eq_comm]; exact tD s letters k hlt (by omega)), rfl⟩
  ·go_wp2
   go_ret
   exact ⟨zW (by rw [eq_comm]; exact pF s letters k (by omega) (by omega) HA.out), rfl⟩
def rowv (k g : Nat) : Value := .slice (some ⟨g, 0, none⟩) k k
structure BB (W0 W : World) (bb k : Nat) (t : List (List Nat)) (gs : List Nat) (sn : Option Addr) (cn : Nat) : Prop where
 box : W.heap[bb]? = some (.cells #[.int .i64 (k : Int), .slice sn t.length cn] 74 (0, 0))
 own : W.ownsRow bb 30 1 (.slice sn t.length cn) t.length (gs.map (rowv k))
 len : gs.length = t.length
 row : ∀ i, i < t.length → Arr W (gs.getD i 0) 3 (nats (t.getD i [])) ∧ (t.getD i []).length = k
 nd : gs.Nodup
 lo : W0.heap.size ≤ bb
 glo : ∀ g ∈ gs, W0.heap.size ≤ g
 grown : W0.grownBy W none
section
variable {W0 W W' : World} {bb k : Nat} {t : List (List Nat)} {gs : List Nat} {sn : Option Addr} {cn : Nat}
theorem BB.start {bb k : Nat} (hb : W.heap[bb]? = some (.cells #[.int .i64 (k : Int), .slice none 0 0] 74 (0, 0))) (h0 : W0.heap.size ≤ bb) (hg : W0.grownBy W none) : BB W0 W bb k [] [] none 0 :=
 ⟨hb, World.ownsRow_nil _ _ _ _, rfl, fun i hi => by simp at hi, by simp, h0, by simp, hg⟩
theorem BB.cells (h : BB W0 W bb k t gs sn cn) : W.cell? ⟨bb, 0, none⟩ = some (.int .i64 (k : Int)) ∧ W.cell? ⟨bb, 1, none⟩ = some (.slice sn t.length cn) ∧ W.frozen? ⟨bb, 1, none⟩ = false := by
 have c0 := zK h.box 0 (by simp)
 have c1 := zK h.box 1 (by simp)
 exact ⟨by simpa using c0, by simpa using c1, zD h.box 1⟩
theorem BB.grow (h : BB W0 W bb k t gs sn cn) (hg : W.grownBy W' none) : BB W0 W' bb k t gs sn cn where
 box := zA h.box hg (by simp)
 own := yB h.own hg
 len := h.len
 row := fun i hi => ⟨(h.row i hi).1.kept hg (by simp), (h.row i hi).2⟩
 nd := h.nd
 lo := h.lo
 glo := h.glo
 grown := zB h.grown hg (by simp)
theorem BB.hd (h : BB W0 W bb k t gs sn cn) (h0 : 0 < t.length) : ∃ q cap, sn = some ⟨q, 0, none⟩ ∧ cn = cap ∧ t.length ≤ cap ∧ cap ≤ maxLen ∧ ∀ i, i < t.length → W.cell? ⟨q, i, none⟩ = some (rowv k (gs.getD i 0)) := by
 rcases id h.own.2 with ⟨e, _⟩ | ⟨q, cap, cur, e, _, _, hnc, hcm, _⟩
 ·simp only [Value.slice.injEq] at e; omega
 ·simp only [Value.slice.injEq] at e
  obtain ⟨rfl, _, rfl⟩ := e
  refine ⟨q, cn, rfl, rfl, hnc, hcm, fun i hi => ?_⟩
  have hi2 : i < gs.length := by rw [h.len]; exact hi
  rw [h.own.cellAt i (by omega), List.getElem?_map, List.getElem?_eq_getElem hi2, zI hi2]; rfl
theorem getD_memN {gs : List Nat} {i : Nat} (h : i < gs.length) : gs.getD i 0 ∈ gs := by rw [zI h]; exact List.getElem_mem h
theorem nodup_getD {gs : List Nat} (hn : gs.Nodup) {i j : Nat} (hi : i < gs.length) (hj : j < gs.length) (e : gs.getD i 0 = gs.getD j 0) : i = j := by
 rw [zI hi, zI hj] at e
 rw [← hn.idxOf_getElem i hi, e, hn.idxOf_getElem j hj]
theorem pJ {α : Type} {l : List α} {i : Nat} {x y : α} (h : i < l.length) : (l.set i x).getD i y = x := by
 rw [zI (by simpa using h)]; simp
theorem mE {α : Type} {l : List α} {i j : Nat} {x y : α} (h : i ≠ j) : (l.set i x).getD j y = l.getD j y := by
 simp only [List.getD_eq_getElem?_getD]
 rw [List.getElem?_set_ne h]
theorem BB.set (h : BB W0 W bb k t gs sn cn) {i : Nat} (hi : i < t.length) {r : List Nat} (hr : r.length = k) (hg : W.grownBy W' (some (gs.getD i 0))) (ha : Arr W' (gs.getD i 0) 3 (nats r)) : BB W0 W' bb k (t.set i r) gs sn cn := by
 obtain ⟨cur, rest, hc, _⟩ := (h.row i hi).1
 have hne : gs.getD i 0 ≠ bb := fun e => by
  rw [e, h.box] at hc
  simp only [Option.some.injEq, Obj.cells.injEq] at hc
  exact absurd hc.2.1 (by decide)
 have hil : i < gs.length := by rw [h.len]; exact hi
 refine ⟨?_, ?_, by rw [List.length_set]; exact h.len, fun j hj => ?_, h.nd, h.lo, h.glo, zB h.grown hg (fun q e => by have := Option.some.inj e; subst this; exact h.glo _ (getD_memN hil))⟩
 ·rw [List.length_set]; exact zA h.box hg (fun e => hne (Option.some.inj e))
 ·rw [List.length_set]; exact h.own.kept hg (.inr (zM h.own hc (by decide)))
 ·rw [List.length_set] at hj
  by_cases e : i = j
  ·subst e
   rw [pJ hi]
   exact ⟨ha, hr⟩
  ·rw [mE e]
   exact ⟨(h.row j hj).1.kept hg (fun e2 => e (nodup_getD h.nd hil (by rw [h.len]; exact hj) (Option.some.inj e2))), (h.row j hj).2⟩
theorem BB.put (h : BB W0 W bb k t gs sn cn) {i j : Nat} (hi : i < t.length) (hj : j < k) (c : Nat) : BB W0 (W.setCell ⟨gs.getD i 0, j, none⟩ (.int .i64 (c : Int))) bb k (t.set i ((t.getD i []).set j c)) gs sn cn := by
 have hr := h.row i hi
 exact h.set hi (by rw [List.length_set]; exact hr.2) (zC W ⟨gs.getD i 0, j, none⟩ _) (hr.1.nat_set j (by rw [hr.2]; exact hj) c)
theorem BB.off (h : BB W0 W bb k t gs sn cn) {g : Nat} {c : Array Value} {m : Nat × Nat} (hg : W.grownBy W' (some g)) (hc : W.heap[g]? = some (.cells c 3 m)) (hn : g ∉ gs) (h0 : W0.heap.size ≤ g) : BB W0 W' bb k t gs sn cn where
 box := zA h.box hg (fun e => by
  have := Option.some.inj e
  subst this
  rw [h.box] at hc
  simp only [Option.some.injEq, Obj.cells.injEq] at hc
  exact absurd hc.2.1 (by decide))
 own := h.own.kept hg (.inr (zM h.own hc (by decide)))
 len := h.len
 row := fun i hi => ⟨(h.row i hi).1.kept hg (fun e => hn (by rw [Option.some.inj e]; exact getD_memN (by rw [h.len]; exact hi))), (h.row i hi).2⟩
 nd := h.nd
 lo := h.lo
 glo := h.glo
 grown := zB h.grown hg (fun q e => by have := Option.some.inj e; omega)
theorem BB.lt (h : BB W0 W bb k t gs sn cn) : ∀ g ∈ gs, g < W.heap.size := fun g hg => by
 obtain ⟨i, hi, rfl⟩ := List.getElem_of_mem hg
 have := (h.row i (by rw [← h.len]; exact hi)).1.lt
 rwa [zI hi] at this
theorem BB.push (h : BB W0 W bb k t gs sn cn) {g : Nat} {r : List Nat} {sn' : Option Addr} {cn' : Nat} (hr : r.length = k) (ha : Arr W g 3 (nats r)) (hgn : ∀ x ∈ gs, x ≠ g) (hg0 : W0.heap.size ≤ g) (ho : W'.ownsRow bb 30 1 (.slice sn' (t.length + 1) cn') (t.length + 1) (gs.map (rowv k) ++ [rowv k g])) (hg : W.grownBy W' (Value.slice sn t.length cn).ownBlock) {W2 : World} (hW2 : W2 = W'.setCell ⟨bb, 1, none⟩ (.slice sn' (t.length + 1) cn')) :
  BB W0 W2 bb k (t ++ [r]) (gs ++ [g]) sn' cn' := by
 have hb := zA h.box hg (zM h.own h.box (by decide))
 have hs2 := heap_setCell_same W' bb 1 _ _ (.slice sn' (t.length + 1) cn') hb
 have g2 := zC W' ⟨bb, 1, none⟩ (.slice sn' (t.length + 1) cn')
 rw [← hW2] at hs2 g2
 have hint : ∀ {q : Nat} {xs : List Value}, Arr W q 3 xs → Arr W2 q 3 xs := fun {q xs} hq => by
  obtain ⟨cu, rs, hc, _⟩ := id hq
  exact (hq.kept hg (zM h.own hc (by decide))).kept g2 (fun e => by
   have e : bb = q := Option.some.inj e
   subst e
   rw [h.box] at hc
   simp only [Option.some.injEq, Obj.cells.injEq] at hc
   exact absurd hc.2.1 (by decide))
 have e1 : (t ++ [r]).length = t.length + 1 := by simp
 refine ⟨?_, ?_, by simp [h.len], fun i hi => ?_, ?_, h.lo, ?_, zB (zB h.grown hg (fun j e => Nat.le_trans h.lo (h.own.lt j e).1)) g2 (fun j e => by have e : bb = j := Option.some.inj e; have := h.lo; omega)⟩
 ·rw [hs2, e1]; simp
 ·rw [e1, List.map_append]; exact ho.kept g2 (.inr (zM ho hb (by decide)))
 ·rw [e1] at hi
  by_cases hi' : i < t.length
  ·rw [yA (by rw [h.len]; exact hi'), yA hi']
   exact ⟨hint (h.row i hi').1, (h.row i hi').2⟩
  ·have : i = t.length + 0 := by omega
   rw [this, xL]
   rw [show (gs ++ [g]).getD (t.length + 0) 0 = g by rw [← h.len, xL]; rfl]
   exact ⟨hint ha, hr⟩
 ·rw [List.nodup_append]
  exact ⟨h.nd, by simp, fun x hx y hy e => by simp at hy; subst hy; exact hgn x hx e⟩
 ·intro x hx
  rcases List.mem_append.1 hx with hx | hx
  ·exact h.glo x hx
  ·simp at hx; subst hx; exact hg0
end
theorem sW {α : Type} {l : List α} {x y : α} {n : Nat} (h : n = l.length) : (l ++ [x]).getD n y = x := by
 subst h
 rw [zI (by simp)]; simp
theorem snoc_set {α : Type} {l : List α} {x y : α} {n : Nat} (h : n = l.length) : (l ++ [x]).set n y = l ++ [y] := by
 subst h
 rw [List.set_append_right _ _ (Nat.le_refl _), Nat.sub_self]; rfl
section
variable {W0 W W' : World} {bb k : Nat} {t : List (List Nat)} {gs : List Nat} {sn : Option Addr} {cn : Nat} {r : List Nat} {g : Nat}
theorem BB.lastlen (h : BB W0 W bb k (t ++ [r]) (gs ++ [g]) sn cn) : gs.length = t.length := by have := h.len; simp at this; exact this
theorem BB.last (h : BB W0 W bb k (t ++ [r]) (gs ++ [g]) sn cn) : Arr W g 3 (nats r) ∧ r.length = k := by
 have := h.row t.length (by simp)
 rwa [sW rfl, sW h.lastlen.symm] at this
theorem BB.putLast (h : BB W0 W bb k (t ++ [r]) (gs ++ [g]) sn cn) {j : Nat} (hj : j < k) (c : Nat) : BB W0 (W.setCell ⟨g, j, none⟩ (.int .i64 (c : Int))) bb k (t ++ [r.set j c]) (gs ++ [g]) sn cn := by
 have := h.put (i := t.length) (by simp) hj c
 rwa [sW rfl, sW h.lastlen.symm, snoc_set rfl] at this
end
def zH (s : ByteArray) : List Nat := s.data.toList.map fun c => c.toNat - 97
theorem yH (s : ByteArray) : (zH s).length = s.size := by simp [zH]
theorem pW {s : ByteArray} {i : Nat} (h : i < s.size) : (zH s).getD i 0 = s[i].toNat - 97 := by
 rw [zI (by rw [yH]; exact h)]
 simp [zH]; rfl
theorem lW {k : Nat} {c : UInt8} : uV (k : Int) c = true ↔ 97 ≤ c.toNat ∧ c.toNat - 97 < k := by
 unfold uV
 rw [decide_eq_true_eq]; omega
theorem sS {s : ByteArray} {k : Nat} (h : zU s (k : Int) = true) : xS k (zH s) ∧ (∀ i (hi : i < s.size), 97 ≤ s[i].toNat ∧ s[i].toNat - 97 < k) ∧ s.size ≤ 2048 := by
 simp only [zU, Bool.and_eq_true, decide_eq_true_eq, List.all_eq_true] at h
 refine ⟨fun a ha => ?_, fun i hi => ?_, h.1.2.2⟩
 ·obtain ⟨c, hc, rfl⟩ := List.mem_map.1 ha
  exact (lW.1 (h.2 c hc)).2
 ·have hm : s[i] ∈ s.data.toList := by
   have : s[i] = s.data.toList[i]'(by simpa using hi) := by simp; rfl
   rw [this]; exact List.getElem_mem _
  exact lW.1 (h.2 _ hm)
def RowAdded (W0 : World) (bb k : Nat) (t : List (List Nat)) (gs : List Nat) (u0 : Nat) (e : Ending) (W' : World) : Prop :=
 ∃ g sn cn, e = .returned (.slice (some ⟨g, 0, none⟩) k k) ∧ BB W0 W' bb k (t ++ [List.replicate k u0]) (gs ++ [g]) sn cn
set_option maxRecDepth 100000 in
set_option maxHeartbeats 800000 in
theorem sI (W0 W : World) (bb k : Nat) (t : List (List Nat)) (gs : List Nat) (sn : Option Addr) (cn u0 : Nat) (h : BB W0 W bb k t gs sn cn) (hk1 : 1 ≤ k) (hk6 : k ≤ 6) (ht : t.length ≤ 1000) :
  Calls Try.prog 44 #[.pointer (some ⟨bb, 0, none⟩), .int .i64 (u0 : Int)] W (RowAdded W0 bb k t gs u0) := by
 obtain ⟨c0, c1, f1⟩ := h.cells
 have H := Kh h
 clear h
 go_enter Try.func44, Try.ntmps44
 go_wp2_with (first | (at_make; refine pV rfl _ _ _ rfl xI rfl .i64 .i64 _ _ k rfl rfl rfl rfl ?b1 ?b2 ?_; (case b1 => omega); (case b2 => (unfold maxLen; omega)); intro w2 harr hg2 hlt2) | fail)
 obtain ⟨g, hg⟩ : ∃ g, g = W.heap.size := ⟨_, rfl⟩
 rw [← hg] at harr hlt2 ⊢
 have HB2 := Kh (H.out.grow hg2)
 have hgn : g ∉ gs := fun hm => by have := H.out.lt g hm; omega
 have hg0 : W0.heap.size ≤ g := by have := H.out.grown.size; omega
 have HA2 : Hid (Arr w2 g 3 (nats (List.replicate 0 u0 ++ List.replicate (k - 0) 0))) := Kh (by
  rw [show List.replicate 0 u0 ++ List.replicate (k - 0) 0 = List.replicate k 0 by simp, xJ]; exact harr)
 have HGN := Kh hgn
 clear harr hg2 hg hgn c0 c1 f1 hlt2
 go_loopg [6, 14] k (fun gh a6 i wr => ∃ x : Nat, gh + x = k ∧ i = .int .i64 x ∧ Arr wr g 3 (nats (List.replicate x u0 ++ List.replicate (k - x) 0)) ∧ w2.grownBy wr (some g))
 case atStart => exact ⟨0, rfl, rfl, HA2.out, zO _ _⟩
 case round =>
  obtain ⟨x, hgh, rfl, harr, hgr⟩ := hrel
  have HGH := Kh hgh; have HA := Kh harr; have HGR := Kh hgr
  clear hgh
  have hrl : (List.replicate x u0 ++ List.replicate (k - x) 0).length = k := by
   have := HGH.out; simp; omega
  by_cases hx : x < k
  ·have hx' : (x : Int) < k := by omega
   have cx := harr.nat x (by omega)
   have fx := harr.frozen x
   have hset : (List.replicate x u0 ++ List.replicate (k - x) 0).set x u0 = List.replicate (x + 1) u0 ++ List.replicate (k - (x + 1)) 0 := by
    rw [List.set_append_right _ _ (by simp), List.length_replicate, Nat.sub_self, show k - x = (k - (x + 1)) + 1 by omega, List.replicate_succ, List.set_cons_zero, List.replicate_succ', List.append_assoc]
    rfl
   have HSET := Kh hset
   have HRL := Kh hrl
   clear harr hgr hset hrl
   go_wp2
   go_roundg (k - (x + 1))
   case measure => have := HGH.out; omega
   case rel => exact ⟨x + 1, by have := HGH.out; omega, by go_num, by rw [← HSET.out]; exact HA.out.nat_set x (by rw [HRL.out]; exact hx) u0, zE HGR.out (zC wr ⟨g, x, none⟩ _)⟩
  ·have hxk : x = k := by have := HGH.out; omega
   subst hxk
   have hr : List.replicate x u0 ++ List.replicate (x - x) 0 = List.replicate x u0 := by simp
   rw [hr] at HA
   obtain ⟨cur, rest, hcur, _⟩ := HA2.out
   have HBR := Kh (HB2.out.off hgr hcur HGN.out hg0)
   obtain ⟨c0, c1, f1⟩ := HBR.out.cells
   clear hcur hrl hr harr HA2 HB2
   have hbz := zQ HBR.out.box
   go_wp2_with (first | (at_builtin; refine app1s rfl _ _ _ rfl vX bb (.slice sn t.length cn) t.length (gs.map (rowv x)) rfl HBR.out.own (rowv x g) rfl rfl ?a1 ?a2 ?a3 ?_; (case a1 => (unfold maxLen; omega)); (case a2 => omega); (case a3 => omega); intro sn6 cn6 w6 hown6 hg6 hz6 hmv6; (have HO6 := Kh hown6); (have HG6 := Kh hg6); (have hb6 := zA HBR.out.box hg6 (zM HBR.out.own HBR.out.box (by decide))); (have hc6 : w6.cell? ⟨bb, 1, none⟩ = some (.slice sn t.length cn) := by simpa using zK hb6 1 (by simp)); (have hf6 := zD hb6 1); clear hown6 hg6 hmv6 hb6) | fail)
   go_ret
   exact ⟨g, sn6, cn6, rfl, HBR.out.push (by simp) HA.out (fun y hy e => HGN.out (e ▸ hy)) hg0 HO6.out HG6.out rfl⟩
end Go.Proofs.Ytgbfaggnnfoamaa
