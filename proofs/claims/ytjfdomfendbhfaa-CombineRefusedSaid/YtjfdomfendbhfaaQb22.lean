/- Part 22 of the proof: BB, BRow, BPre, Made, MadeWord, Repeat. -/
import Derived.Test.YtjfdomfendbhfaaQb21
import Derived.Laws.IdiomCopy
import Derived.BigRegion
import Derived.Lib.MakeNoZero
import Derived.Lib.SlBuf
import Derived.Laws.Externs
set_option linter.unusedVariables false
set_option linter.unusedSimpArgs false
namespace Go.Proofs.Ytjfdomfendbhfaa
open Go.RowKit
def rowv (k g : Nat) : Value := .slice (some ⟨g, 0, none⟩) k k
structure BB (W0 W : World) (bb k : Nat) (t : List (List Nat)) (gs : List Nat) (sn : Option Addr) (cn : Nat) : Prop where
 box : W.heap[bb]? = some (.cells #[.int .i64 (k : Int), .slice sn t.length cn] 162 (0, 0))
 own : W.ownsRow bb 34 1 (.slice sn t.length cn) t.length (gs.map (rowv k))
 len : gs.length = t.length
 row : ∀ i, i < t.length → Arr W (gs.getD i 0) 3 (nats (t.getD i [])) ∧ (t.getD i []).length = k
 nd : gs.Nodup
 lo : W0.heap.size ≤ bb
 glo : ∀ g ∈ gs, W0.heap.size ≤ g
 grown : W0.grownBy W none
section
variable {W0 W W' : World} {bb k : Nat} {t : List (List Nat)} {gs : List Nat} {sn : Option Addr} {cn : Nat}
theorem BB.start {bb k : Nat} (hb : W.heap[bb]? = some (.cells #[.int .i64 (k : Int), .slice none 0 0] 162 (0, 0))) (h0 : W0.heap.size ≤ bb) (hg : W0.grownBy W none) : BB W0 W bb k [] [] none 0 :=
 ⟨hb, World.ownsRow_nil _ _ _ _, rfl, fun i hi => by simp at hi, by simp, h0, by simp, hg⟩
theorem BB.cells (h : BB W0 W bb k t gs sn cn) : W.cell? ⟨bb, 0, none⟩ = some (.int .i64 (k : Int)) ∧ W.cell? ⟨bb, 1, none⟩ = some (.slice sn t.length cn) ∧ W.frozen? ⟨bb, 1, none⟩ = false := by
 have c0 := zO h.box 0 (by simp)
 have c1 := zO h.box 1 (by simp)
 exact ⟨by simpa using c0, by simpa using c1, zE h.box 1⟩
theorem BB.grow (h : BB W0 W bb k t gs sn cn) (hg : W.grownBy W' none) : BB W0 W' bb k t gs sn cn where
 box := zB h.box hg (by simp)
 own := zV h.own hg
 len := h.len
 row := fun i hi => ⟨(h.row i hi).1.kept hg (by simp), (h.row i hi).2⟩
 nd := h.nd
 lo := h.lo
 glo := h.glo
 grown := zA h.grown hg (by simp)
theorem BB.hd (h : BB W0 W bb k t gs sn cn) (h0 : 0 < t.length) : ∃ q cap, sn = some ⟨q, 0, none⟩ ∧ cn = cap ∧ t.length ≤ cap ∧ cap ≤ maxLen ∧ ∀ i, i < t.length → W.cell? ⟨q, i, none⟩ = some (rowv k (gs.getD i 0)) := by
 rcases id h.own.2 with ⟨e, _⟩ | ⟨q, cap, cur, e, _, _, hnc, hcm, _⟩
 ·simp only [Value.slice.injEq] at e; omega
 ·simp only [Value.slice.injEq] at e
  obtain ⟨rfl, _, rfl⟩ := e
  refine ⟨q, cn, rfl, rfl, hnc, hcm, fun i hi => ?_⟩
  have hi2 : i < gs.length := by rw [h.len]; exact hi
  rw [h.own.cellAt i (by omega), List.getElem?_map, List.getElem?_eq_getElem hi2, zI hi2]; rfl
theorem BB.set (h : BB W0 W bb k t gs sn cn) {i : Nat} (hi : i < t.length) {r : List Nat} (hr : r.length = k) (hg : W.grownBy W' (some (gs.getD i 0))) (ha : Arr W' (gs.getD i 0) 3 (nats r)) : BB W0 W' bb k (t.set i r) gs sn cn := by
 obtain ⟨cur, rest, hc, _⟩ := (h.row i hi).1
 have hne : gs.getD i 0 ≠ bb := fun e => by
  rw [e, h.box] at hc
  simp only [Option.some.injEq, Obj.cells.injEq] at hc
  exact absurd hc.2.1 (by decide)
 have hil : i < gs.length := by rw [h.len]; exact hi
 refine ⟨?_, ?_, by rw [List.length_set]; exact h.len, fun j hj => ?_, h.nd, h.lo, h.glo, zA h.grown hg (fun q e => by have := Option.some.inj e; subst this; exact h.glo _ (getD_memN hil))⟩
 ·rw [List.length_set]; exact zB h.box hg (fun e => hne (Option.some.inj e))
 ·rw [List.length_set]; exact h.own.kept hg (.inr (zS h.own hc (by decide)))
 ·rw [List.length_set] at hj
  by_cases e : i = j
  ·subst e
   rw [set_getD_same hi]
   exact ⟨ha, hr⟩
  ·rw [set_getD_ne e]
   exact ⟨(h.row j hj).1.kept hg (fun e2 => e (nodupN_getD h.nd hil (by rw [h.len]; exact hj) (Option.some.inj e2))), (h.row j hj).2⟩
theorem BB.put (h : BB W0 W bb k t gs sn cn) {i j : Nat} (hi : i < t.length) (hj : j < k) (c : Nat) : BB W0 (W.setCell ⟨gs.getD i 0, j, none⟩ (.int .i64 (c : Int))) bb k (t.set i ((t.getD i []).set j c)) gs sn cn := by
 have hr := h.row i hi
 exact h.set hi (by rw [List.length_set]; exact hr.2) (zD W ⟨gs.getD i 0, j, none⟩ _) (hr.1.nat_set j (by rw [hr.2]; exact hj) c)
theorem BB.off (h : BB W0 W bb k t gs sn cn) {g : Nat} {c : Array Value} {m : Nat × Nat} (hg : W.grownBy W' (some g)) (hc : W.heap[g]? = some (.cells c 3 m)) (hn : g ∉ gs) (h0 : W0.heap.size ≤ g) : BB W0 W' bb k t gs sn cn where
 box := zB h.box hg (fun e => by
  have := Option.some.inj e
  subst this
  rw [h.box] at hc
  simp only [Option.some.injEq, Obj.cells.injEq] at hc
  exact absurd hc.2.1 (by decide))
 own := h.own.kept hg (.inr (zS h.own hc (by decide)))
 len := h.len
 row := fun i hi => ⟨(h.row i hi).1.kept hg (fun e => hn (by rw [Option.some.inj e]; exact getD_memN (by rw [h.len]; exact hi))), (h.row i hi).2⟩
 nd := h.nd
 lo := h.lo
 glo := h.glo
 grown := zA h.grown hg (fun q e => by have := Option.some.inj e; omega)
theorem BB.lt (h : BB W0 W bb k t gs sn cn) : ∀ g ∈ gs, g < W.heap.size := fun g hg => by
 obtain ⟨i, hi, rfl⟩ := List.getElem_of_mem hg
 have := (h.row i (by rw [← h.len]; exact hi)).1.lt
 rwa [zI hi] at this
theorem BB.push (h : BB W0 W bb k t gs sn cn) {g : Nat} {r : List Nat} {sn' : Option Addr} {cn' : Nat} (hr : r.length = k) (ha : Arr W g 3 (nats r)) (hgn : ∀ x ∈ gs, x ≠ g) (hg0 : W0.heap.size ≤ g) (ho : W'.ownsRow bb 34 1 (.slice sn' (t.length + 1) cn') (t.length + 1) (gs.map (rowv k) ++ [rowv k g])) (hg : W.grownBy W' (Value.slice sn t.length cn).ownBlock) {W2 : World} (hW2 : W2 = W'.setCell ⟨bb, 1, none⟩ (.slice sn' (t.length + 1) cn')) :
  BB W0 W2 bb k (t ++ [r]) (gs ++ [g]) sn' cn' := by
 have hb := zB h.box hg (zS h.own h.box (by decide))
 have hs2 := heap_setCell_same W' bb 1 _ _ (.slice sn' (t.length + 1) cn') hb
 have g2 := zD W' ⟨bb, 1, none⟩ (.slice sn' (t.length + 1) cn')
 rw [← hW2] at hs2 g2
 have hint : ∀ {q : Nat} {xs : List Value}, Arr W q 3 xs → Arr W2 q 3 xs := fun {q xs} hq => by
  obtain ⟨cu, rs, hc, _⟩ := id hq
  exact (hq.kept hg (zS h.own hc (by decide))).kept g2 (fun e => by
   have e : bb = q := Option.some.inj e
   subst e
   rw [h.box] at hc
   simp only [Option.some.injEq, Obj.cells.injEq] at hc
   exact absurd hc.2.1 (by decide))
 have e1 : (t ++ [r]).length = t.length + 1 := by simp
 refine ⟨?_, ?_, by simp [h.len], fun i hi => ?_, ?_, h.lo, ?_, zA (zA h.grown hg (fun j e => Nat.le_trans h.lo (h.own.lt j e).1)) g2 (fun j e => by have e : bb = j := Option.some.inj e; have := h.lo; omega)⟩
 ·rw [hs2, e1]; simp
 ·rw [e1, List.map_append]; exact ho.kept g2 (.inr (zS ho hb (by decide)))
 ·rw [e1] at hi
  by_cases hi' : i < t.length
  ·rw [yK (by rw [h.len]; exact hi'), yK hi']
   exact ⟨hint (h.row i hi').1, (h.row i hi').2⟩
  ·have : i = t.length + 0 := by omega
   rw [this, xY]
   rw [show (gs ++ [g]).getD (t.length + 0) 0 = g by rw [← h.len, xY]; rfl]
   exact ⟨hint ha, hr⟩
 ·rw [List.nodup_append]
  exact ⟨h.nd, by simp, fun x hx y hy e => by simp at hy; subst hy; exact hgn x hx e⟩
 ·intro x hx
  rcases List.mem_append.1 hx with hx | hx
  ·exact h.glo x hx
  ·simp at hx; subst hx; exact hg0
end
section
variable {W0 W W' : World} {bb k : Nat} {t : List (List Nat)} {gs : List Nat} {sn : Option Addr} {cn : Nat} {r : List Nat} {g : Nat}
theorem BB.lastlen (h : BB W0 W bb k (t ++ [r]) (gs ++ [g]) sn cn) : gs.length = t.length := by have := h.len; simp at this; exact this
theorem BB.last (h : BB W0 W bb k (t ++ [r]) (gs ++ [g]) sn cn) : Arr W g 3 (nats r) ∧ r.length = k := by
 have := h.row t.length (by simp)
 rwa [pG rfl, pG h.lastlen.symm] at this
theorem BB.putLast (h : BB W0 W bb k (t ++ [r]) (gs ++ [g]) sn cn) {j : Nat} (hj : j < k) (c : Nat) : BB W0 (W.setCell ⟨g, j, none⟩ (.int .i64 (c : Int))) bb k (t ++ [r.set j c]) (gs ++ [g]) sn cn := by
 have := h.put (i := t.length) (by simp) hj c
 rwa [pG rfl, pG h.lastlen.symm, snoc_set rfl] at this
end
def RowAdded (W0 : World) (bb k : Nat) (t : List (List Nat)) (gs : List Nat) (u0 : Nat) (e : Ending) (W' : World) : Prop :=
 ∃ g sn cn, e = .returned (.slice (some ⟨g, 0, none⟩) k k) ∧ BB W0 W' bb k (t ++ [List.replicate k u0]) (gs ++ [g]) sn cn
set_option maxRecDepth 100000 in
set_option maxHeartbeats 800000 in
theorem qZ (W0 W : World) (bb k : Nat) (t : List (List Nat)) (gs : List Nat) (sn : Option Addr) (cn u0 : Nat) (h : BB W0 W bb k t gs sn cn) (hk1 : 1 ≤ k) (hk6 : k ≤ 6) (ht : t.length ≤ 1000) :
  Calls Try.prog 106 #[.pointer (some ⟨bb, 0, none⟩), .int .i64 (u0 : Int)] W (RowAdded W0 bb k t gs u0) := by
 obtain ⟨c0, c1, f1⟩ := h.cells
 have H := Kh h
 clear h
 go_enter Try.func106, Try.ntmps106
 go_wp2_with (first | (at_make; refine make1 rfl _ _ _ rfl xP rfl .i64 .i64 _ _ k rfl rfl rfl rfl ?b1 ?b2 ?_; (case b1 => omega); (case b2 => (unfold maxLen; omega)); intro w2 harr hg2 hlt2) | fail)
 obtain ⟨g, hg⟩ : ∃ g, g = W.heap.size := ⟨_, rfl⟩
 rw [← hg] at harr hlt2 ⊢
 have HB2 := Kh (H.out.grow hg2)
 have hgn : g ∉ gs := fun hm => by have := H.out.lt g hm; omega
 have hg0 : W0.heap.size ≤ g := by have := H.out.grown.size; omega
 have HA2 : Hid (Arr w2 g 3 (nats (List.replicate 0 u0 ++ List.replicate (k - 0) 0))) := Kh (by
  rw [show List.replicate 0 u0 ++ List.replicate (k - 0) 0 = List.replicate k 0 by simp, xU]; exact harr)
 have HGN := Kh hgn
 clear harr hg2 hg hgn c0 c1 f1 hlt2
 go_loopg [6, 14] k (fun gh a6 i wr => ∃ x : Nat, gh + x = k ∧ i = .int .i64 x ∧ Arr wr g 3 (nats (List.replicate x u0 ++ List.replicate (k - x) 0)) ∧ w2.grownBy wr (some g))
 case atStart => exact ⟨0, rfl, rfl, HA2.out, zL _ _⟩
 case round =>
  obtain ⟨x, hgh, rfl, harr, hgr⟩ := hrel
  have HGH := Kh hgh; have HA := Kh harr; have HGR := Kh hgr
  clear hgh
  have hrl : (List.replicate x u0 ++ List.replicate (k - x) 0).length = k := by
   have := HGH.out; simp; omega
  by_cases hx : x < k
  ·have hx' : (x : Int) < k := by omega
   have cx := harr.nat x (by omega)
   have fx := harr.frozen x
   have hset : (List.replicate x u0 ++ List.replicate (k - x) 0).set x u0 = List.replicate (x + 1) u0 ++ List.replicate (k - (x + 1)) 0 := by
    rw [List.set_append_right _ _ (by simp), List.length_replicate, Nat.sub_self, show k - x = (k - (x + 1)) + 1 by omega, List.replicate_succ, List.set_cons_zero, List.replicate_succ', List.append_assoc]
    rfl
   have HSET := Kh hset
   have HRL := Kh hrl
   clear harr hgr hset hrl
   go_wp2
   go_roundg (k - (x + 1))
   case measure => have := HGH.out; omega
   case rel => exact ⟨x + 1, by have := HGH.out; omega, by go_num, by rw [← HSET.out]; exact HA.out.nat_set x (by rw [HRL.out]; exact hx) u0, zF HGR.out (zD wr ⟨g, x, none⟩ _)⟩
  ·have hxk : x = k := by have := HGH.out; omega
   subst hxk
   have hr : List.replicate x u0 ++ List.replicate (x - x) 0 = List.replicate x u0 := by simp
   rw [hr] at HA
   obtain ⟨cur, rest, hcur, _⟩ := HA2.out
   have HBR := Kh (HB2.out.off hgr hcur HGN.out hg0)
   obtain ⟨c0, c1, f1⟩ := HBR.out.cells
   clear hcur hrl hr harr HA2 HB2
   have hbz := zN HBR.out.box
   go_wp2_with (first | (at_builtin; refine app1s rfl _ _ _ rfl qY bb (.slice sn t.length cn) t.length (gs.map (rowv x)) rfl HBR.out.own (rowv x g) rfl rfl ?a1 ?a2 ?a3 ?_; (case a1 => (unfold maxLen; omega)); (case a2 => omega); (case a3 => omega); intro sn6 cn6 w6 hown6 hg6 hz6 hmv6; (have HO6 := Kh hown6); (have HG6 := Kh hg6); (have hb6 := zB HBR.out.box hg6 (zS HBR.out.own HBR.out.box (by decide))); (have hc6 : w6.cell? ⟨bb, 1, none⟩ = some (.slice sn t.length cn) := by simpa using zO hb6 1 (by simp)); (have hf6 := zE hb6 1); clear hown6 hg6 hmv6 hb6) | fail)
   go_ret
   exact ⟨g, sn6, cn6, rfl, HBR.out.push (by simp) HA.out (fun y hy e => HGN.out (e ▸ hy)) hg0 HO6.out HG6.out rfl⟩
def preN (k : Nat) (b : List Nat) (j : Nat) : List Nat := (List.range k).map fun a => if b.getD j 0 = a then 2 + j else 0
def rB (k : Nat) (b : List Nat) (m : Nat) : List (List Nat) := (List.range m).map (preN k b)
theorem set_replicate {k a c : Nat} : (List.replicate k 0).set a c = (List.range k).map fun i => if a = i then c else 0 := by
 refine List.ext_getElem (by simp) fun i h1 h2 => ?_
 rw [List.getElem_set]; simp
theorem preNs_succ (k : Nat) (b : List Nat) (m : Nat) : rB k b (m + 1) = rB k b m ++ [preN k b m] := by
 simp [rB, List.range_succ]
def RowsLeft (W0 : World) (bb k : Nat) (t : List (List Nat)) (e : Ending) (W' : World) : Prop := ∃ gs sn cn, e = .returned (.tuple #[]) ∧ BB W0 W' bb k t gs sn cn
set_option maxRecDepth 100000 in
set_option maxHeartbeats 800000 in
theorem bprefix_any (W0 W : World) (bb k : Nat) (t : List (List Nat)) (gs : List Nat) (sn : Option Addr) (cn : Nat) (u : ByteArray) (h : BB W0 W bb k t gs sn cn) (ht : t.length = 1) (hk1 : 1 ≤ k) (hk6 : k ≤ 6) (hu : zU u (k : Int) = true) (hl : u.size ≤ 64) :
  Calls Try.prog 107 #[.pointer (some ⟨bb, 0, none⟩), .string u] W (RowsLeft W0 bb k (t ++ rB k (zK u) u.size)) := by
 have H := Kh h
 have HU := Kh (uA hu)
 have hl1 : t.length ≤ 1 := by omega
 have HT := Kh ht
 clear h hu ht
 go_enter Try.func107, Try.ntmps107
 go_wp2_with fail
 go_loopg [4, 5, 8] u.size (fun gh a4 a5 i wr => ∃ (j : Nat) (gs : List Nat) (sn : Option Addr) (cn : Nat), gh + j = u.size ∧ i = .int .i64 j ∧ BB W0 wr bb k (t ++ rB k (zK u) j) gs sn cn)
 case atStart => exact ⟨0, gs, sn, cn, rfl, rfl, by simpa [rB] using H.out⟩
 case round =>
  clear H
  obtain ⟨j, gs, sn, cn, hgh, rfl, hbb⟩ := hrel
  have HGH := Kh hgh; have HBB := Kh hbb
  clear hgh
  by_cases hj : j < u.size
  ·have hj' : (j : Int) < u.size := by omega
   have htl : (t ++ rB k (zK u) j).length = j + 1 := by have := HT.out; simp [rB]; omega
   have HTL := Kh htl
   go_wp2_with fail
   refine (qZ W0 wr bb k _ gs sn cn 0 hbb hk1 hk6 (by omega)).mono ?_
   rintro e w1 ⟨g, sn1, cn1, rfl, hb1⟩
   obtain ⟨c0, c1, f1⟩ := hb1.cells
   have hr := hb1.last
   rw [List.length_append, htl] at c1
   have hb := HU.out.2.1 j hj
   obtain ⟨by0, hby⟩ : ∃ b, b = u[j].toNat := ⟨_, rfl⟩
   have h256 : by0 < 256 := by rw [hby]; exact u[j].toNat_lt
   rw [← hby] at hb
   obtain ⟨a, ha⟩ : ∃ a, a = by0 - 97 := ⟨_, rfl⟩
   have hu8 := u8_sub hb.1 h256
   rw [← ha] at hu8
   have hu8' : ((by0 : Int) - 97) % 256 = (a : Int) := by omega
   have hak : a < k := by omega
   have hak' : (a : Int) < k := by omega
   have ca := hr.1.nat a (by simp; omega)
   have fa := hr.1.frozen a
   have hlet : (zK u).getD j 0 = a := by rw [qQ hj, ← hby, ha]
   have HL := Kh hlet; have HB1 := Kh hb1; have HR := Kh hr; 
   have hbys : (u[j].toNat : Int) = (by0 : Int) := by rw [hby]
   clear hb hby ha hr hbb hb1 hlet htl
   go_wp2_with fail
   go_region
   all_goals (try go_frame)
   all_goals go_wp2
   all_goals
    go_roundg (u.size - (j + 1))
    case measure => have := HGH.out; omega
    case rel =>
     have hp := (HB1.out.putLast hak (2 + j)).grow (zP _ none)
     have e : ((2 + j : Nat) : Int) = (j : Int) + 1 + 1 := by omega
     rw [e, set_replicate, ← HL.out, List.append_assoc] at hp
     rw [← HL.out]
     exact ⟨j + 1, gs ++ [g], sn1, cn1, by have := HGH.out; omega, by go_num, by rw [preNs_succ]; exact hp⟩
  ·have hju : j = u.size := by have := HGH.out; omega
   subst hju
   go_wp2
   exact bodyPost_ret (v := .tuple #[]) (by simp [results, Try.results107, go_sem]) rfl ⟨gs, sn, cn, rfl, hbb⟩
theorem tmod_bd (x n : Int) (hn : 1 ≤ n) : -n < x.tmod n ∧ x.tmod n < n := by
 constructor
 ·by_cases h : 0 ≤ x
  ·have := Int.tmod_nonneg n h; omega
  ·have h1 := Int.tmod_lt_of_pos (-x) (show (0 : Int) < n by omega)
   rw [Int.neg_tmod] at h1; omega
 ·exact Int.tmod_lt_of_pos x (by omega)
def modI (x n : Int) : Int := if n < 1 then 0 else if x.tmod n < 0 then x.tmod n + n else x.tmod n
theorem modI_nonneg (x n : Int) : 0 ≤ modI x n := by
 unfold modI; split
 ·omega
 ·have := tmod_bd x n (by omega); split <;> omega
theorem modI_lt (x n : Int) (h : 1 ≤ n) : modI x n < n := by
 have := tmod_bd x n h
 unfold modI; rw [if_neg (by omega)]; split <;> omega
theorem modI_zero (x n : Int) (h : n < 1) : modI x n = 0 := by
 unfold modI; rw [if_pos h]
set_option maxHeartbeats 400000 in
theorem mod_any (x n : Int) (w : World) (hn : n ≤ 9223372036854775807) :
  Calls Try.prog 30 #[.int .i64 x, .int .i64 n] w fun e w' => e = .returned (.int .i64 (modI x n)) ∧ w = w' := by
 by_cases h1 : n < 1
 ·go_enter Try.func30, Try.ntmps30
  go_wp2
  go_ret
  exact ⟨yE (modI_zero x n (by omega)).symm, rfl⟩
 ·have hb1 := (tmod_bd x n (by omega)).1
  have hb2 := (tmod_bd x n (by omega)).2
  go_enter Try.func30, Try.ntmps30
  go_wp2
  all_goals (go_ret; exact ⟨yE (by unfold modI; rw [if_neg (by omega)]; first | rw [if_pos (by omega)] | rw [if_neg (by omega)]), rfl⟩)
def xC (B : Nat) (w : World) (tb : Nat) : Prop :=
 ∃ (sl : Value) (zs : List Int) (n : Nat), w.heap[tb]? = some (.cells #[sl, .int .i64 n] 82 (0, 0)) ∧ Row B w sl (zs.map (Value.int .i64)) ∧ B ≤ tb ∧ n ≤ zs.length
theorem xC.lt {B : Nat} {w : World} {tb : Nat} (h : xC B w tb) : tb < w.heap.size := by
 obtain ⟨_, _, _, h, _⟩ := h
 exact (Array.getElem?_eq_some_iff.1 h).1
theorem xC.ge {B : Nat} {w : World} {tb : Nat} (h : xC B w tb) : B ≤ tb := by
 obtain ⟨_, _, _, _, _, h, _⟩ := h
 exact h
theorem xC.kept {B : Nat} {w w' : World} {tb : Nat} {row : Option Nat} (h : xC B w tb) (hg : w.grownBy w' row) (hr : ∀ k, row = some k → B ≤ k ∧ k ≠ tb) : xC B w' tb := by
 have hl := h.lt
 obtain ⟨sl, zs, n, h1, h2, h3, h4⟩ := h
 exact ⟨sl, zs, n, (hg.block tb hl (fun e => (hr tb e.symm).2 rfl)).trans h1, h2.kept hg (fun k e => (hr k e).1), h3, h4⟩
theorem xC.of_heap {B : Nat} {w w' : World} {tb : Nat} (h : xC B w tb) (e : w'.heap = w.heap) : xC B w' tb := by
 obtain ⟨sl, zs, n, h1, h2, h3, h4⟩ := h
 exact ⟨sl, zs, n, by rw [e]; exact h1, h2.of_heap e, h3, h4⟩
theorem tape_step {B : Nat} {w : World} {tb : Nat} {sl : Value} {zs : List Int} {n : Nat} (h1 : w.heap[tb]? = some (.cells #[sl, .int .i64 n] 82 (0, 0))) (h2 : Row B w sl (zs.map (Value.int .i64))) (h3 : B ≤ tb) (h4 : n < zs.length) :
  xC B (w.setCell ⟨tb, 1, none⟩ (.int .i64 ((n : Int) + 1))) tb :=
 ⟨sl, zs, n + 1, heap_setCell_same w tb 1 _ _ _ h1, h2.kept (zD w ⟨tb, 1, none⟩ _) (by simp; omega), h3, h4⟩
def Dealt (B tb : Nat) (w : World) (n : Int) (e : Ending) (w' : World) : Prop :=
 ∃ r : Int, e = .returned (.int .i64 r) ∧ 0 ≤ r ∧ (1 ≤ n → r < n) ∧ xC B w' tb ∧ w.grownBy w' (some tb)
set_option maxHeartbeats 400000 in
theorem vB (B tb : Nat) (w : World) (n : Int) (hn : n ≤ 9223372036854775807) (hT : xC B w tb) :
  Calls Try.prog 15 #[.pointer (some ⟨tb, 0, none⟩), .int .i64 n] w (Dealt B tb w n) := by
 have HT := Kh hT
 obtain ⟨sl, zs, at_, hblk, hrow, hB, hat⟩ := hT
 have c0 : w.cell? ⟨tb, 0, none⟩ = some sl := by rw [cell_of_row w tb 0 _ _ _ hblk]; rfl
 have c1 : w.cell? ⟨tb, 1, none⟩ = some (.int .i64 at_) := by rw [cell_of_row w tb 1 _ _ _ hblk]; rfl
 have f1 : w.frozen? ⟨tb, 1, none⟩ = false := frozen_of_row w tb 1 _ _ hblk
 rcases hrow with ⟨sa, sc, rfl, hz⟩ | ⟨b, off, cap, rfl, hbB, hlc, hcm, hra⟩
 ·have HR := Kh hz; have : zs = [] := by simpa using hz
  subst this
  have : at_ = 0 := by simpa using hat
  subst this
  clear hblk hz
  go_enter Try.func15, Try.ntmps15
  go_wp2
  go_quiet (fail)
  go_wp2
  go_ret
  exact ⟨0, rfl, by omega, by omega, HT.out.kept (zT _ _ none) (by simp), zT _ _ _⟩
 ·rw [List.length_map] at hlc c0
  by_cases hlt : at_ < zs.length
  ·have hc := hra.2 at_ (by simpa using hlt)
   have hne : b ≠ tb := by omega
   have hmx : zs.length ≤ 9223372036854775807 := by unfold maxLen at hcm; omega
   simp only [List.getElem_map] at hc
   have HB := Kh hblk; have HR := Kh hra; clear hblk hra
   go_enter Try.func15, Try.ntmps15
   go_wp2
   go_quiet (fail)
   go_wp2
   have e1 : IntKind.i64.wrap (at_ : Int) = at_ := IntWalk.i64_in _ (by omega)
   have e2 : (at_ : Int) < zs.length := by omega
   go_quiet ((go_at_call 30; first | exact quiet_left (mod_any _ _ _ hn) | exact tB (mod_any _ _ _ hn)))
   go_wp2
   go_ret
   refine ⟨modI zs[at_] n, rfl, modI_nonneg _ _, modI_lt _ _, ?_, ?_⟩
   ·exact xC.of_heap (tape_step HB.out (.inr ⟨b, off, cap, by rw [List.length_map], hbB, by simpa using hlc, hcm, HR.out⟩) hB hlt) rfl
   ·exact uB (zD w ⟨tb, 1, none⟩ _) rfl rfl rfl rfl
  ·have hmx : zs.length ≤ 9223372036854775807 := by unfold maxLen at hcm; omega
   clear hblk hra
   go_enter Try.func15, Try.ntmps15
   go_wp2
   go_quiet (fail)
   go_wp2
   go_ret
   exact ⟨0, rfl, by omega, by omega, HT.out.kept (zT _ _ none) (by simp), zT _ _ _⟩
def NewTape (B : Nat) (w : World) (e : Ending) (w' : World) : Prop :=
 e = .returned (.pointer (some ⟨w.heap.size, 0, none⟩)) ∧ xC B w' w.heap.size ∧ w.grownBy w' none
theorem new_tape {B : Nat} {w : World} {sl : Value} {zs : List Int} (h : Row B w sl (zs.map (Value.int .i64))) (hB : B ≤ w.heap.size) :
  NewTape B w (.returned (.pointer (some ⟨w.heap.size, 0, none⟩))) (w.alloc (.cells #[sl, .int .i64 0] 82)) :=
 ⟨rfl, ⟨sl, zs, 0, heap_alloc_new w _, h.kept (World.grownBy_alloc w _ none) (by simp), hB, Nat.zero_le _⟩, World.grownBy_alloc w _ none⟩
theorem Row.cut {B : Nat} {w : World} {b off cap : Nat} {xs : List Value} (n : Nat) (hn : n ≤ xs.length) (hb : b < B) (hc : xs.length ≤ cap) (hm : cap ≤ maxLen) (h : vU w b off xs) :
  Row B w (.slice (some ⟨b, off, none⟩) n cap) (xs.take n) :=
 .inr ⟨b, off, cap, by rw [List.length_take, Nat.min_eq_left hn], hb, by rw [List.length_take]; omega, hm, h.1, fun i hi => by
  rw [List.length_take] at hi
  rw [h.2 i (by omega), List.getElem_take]⟩
set_option maxHeartbeats 400000 in
theorem new_any (B : Nat) (w : World) (sl : Value) (zs : List Int) (h : Row B w sl (zs.map (Value.int .i64))) (hB : B ≤ w.heap.size) :
  Calls Try.prog 14 #[sl] w (NewTape B w) := by
 have HH := Kh h
 rcases h with ⟨sa, sc, rfl, hz⟩ | ⟨b, off, cap, rfl, hbB, hlc, hcm, hra⟩
 ·have HZ := Kh hz; clear hz
  go_enter Try.func14, Try.ntmps14
  go_wp2
  go_ret
  exact new_tape HH.out hB
 ·rw [List.length_map] at *
  have hmx : cap ≤ 9223372036854775807 := by unfold maxLen at hcm; omega
  by_cases h80 : 80 < zs.length
  ·go_enter Try.func14, Try.ntmps14
   go_wp2
   go_ret
   refine new_tape (zs := zs.take 80) ?_ hB
   rw [List.map_take]
   exact Row.cut 80 (by simp; omega) hbB (by simpa using hlc) hcm hra
  ·go_enter Try.func14, Try.ntmps14
   go_wp2
   go_ret
   exact new_tape HH.out hB
theorem elem_u8 : ElemOk Try.prog 106 5 (.int .u8 0) 1 := ⟨Try.underlying106, by kernel_rfl, rfl⟩
def okNum (letters : Int) (n : Int) : Prop := 97 ≤ n ∧ n < 97 + letters
theorem Arr.setCells {g : Nat} {e : TypeId} : ∀ (vs : List Value) (o : Nat) {w : World} {xs : List Value}, Arr w g e xs → o + vs.length ≤ xs.length → Arr (w.setCells g o vs) g e (xs.take o ++ vs ++ xs.drop (o + vs.length))
 | [], o, w, xs, h, _ => by simpa [World.setCells] using h
 | v :: r, o, w, xs, h, hl => by
  rw [List.length_cons] at hl
  have := Arr.setCells r (o + 1) (h.set o (by omega) v) (by rw [List.length_set]; omega)
  rw [World.setCells]
  have e1 : (xs.set o v).take (o + 1) = xs.take o ++ [v] := by
   rw [List.take_succ_eq_append_getElem (by rw [List.length_set]; omega), List.take_set_of_le (by omega)]
   simp
  rw [e1, List.drop_set_of_lt (by omega)] at this
  rw [List.length_cons, show o + (r.length + 1) = o + 1 + r.length by omega]
  simpa using this
end Go.Proofs.Ytjfdomfendbhfaa
