/- Part 21 of the proof: BRow, BPre, Fam1. -/
import Derived.Test.YtgbfaggnnfoamaaZg20
import Derived.Deep.RegionLaw
import Derived.BigRegion
set_option linter.unusedVariables false
set_option linter.unusedSimpArgs false
namespace Go.Proofs.Ytgbfaggnnfoamaa
open Go.RowKit
def RowAdded (W0 : World) (bb k : Nat) (t : List (List Nat)) (gs : List Nat) (u0 : Nat) (e : Ending) (W' : World) : Prop :=
 ∃ g sn cn, e = .returned (.slice (some ⟨g, 0, none⟩) k k) ∧ BB W0 W' bb k (t ++ [List.replicate k u0]) (gs ++ [g]) sn cn
set_option maxRecDepth 100000 in
set_option maxHeartbeats 800000 in
theorem uL (W0 W : World) (bb k : Nat) (t : List (List Nat)) (gs : List Nat) (sn : Option Addr) (cn u0 : Nat) (h : BB W0 W bb k t gs sn cn) (hk1 : 1 ≤ k) (hk6 : k ≤ 6) (ht : t.length ≤ 1000) :
  Calls Try.prog 44 #[.pointer (some ⟨bb, 0, none⟩), .int .i64 (u0 : Int)] W (RowAdded W0 bb k t gs u0) := by
 obtain ⟨c0, c1, f1⟩ := h.cells
 have H := Kh h
 clear h
 go_enter Try.func44, Try.ntmps44
 go_wp2_with (first | (at_make; refine nO rfl _ _ _ rfl wU rfl .i64 .i64 _ _ k rfl rfl rfl rfl ?b1 ?b2 ?_; (case b1 => omega); (case b2 => (unfold maxLen; omega)); intro w2 harr hg2 hlt2) | fail)
 obtain ⟨g, hg⟩ : ∃ g, g = W.heap.size := ⟨_, rfl⟩
 rw [← hg] at harr hlt2 ⊢
 have HB2 := Kh (H.out.grow hg2)
 have hgn : g ∉ gs := fun hm => by have := H.out.lt g hm; omega
 have hg0 : W0.heap.size ≤ g := by have := H.out.grown.size; omega
 have HA2 : Hid (Arr w2 g 3 (nats (List.replicate 0 u0 ++ List.replicate (k - 0) 0))) := Kh (by
  rw [show List.replicate 0 u0 ++ List.replicate (k - 0) 0 = List.replicate k 0 by simp, xL]; exact harr)
 have HGN := Kh hgn
 clear harr hg2 hg hgn c0 c1 f1 hlt2
 go_loopg [6, 14] k (fun gh a6 i wr => ∃ x : Nat, gh + x = k ∧ i = .int .i64 x ∧ Arr wr g 3 (nats (List.replicate x u0 ++ List.replicate (k - x) 0)) ∧ w2.grownBy wr (some g))
 case atStart => exact ⟨0, rfl, rfl, HA2.out, yJ _ _⟩
 case round =>
  obtain ⟨x, hgh, rfl, harr, hgr⟩ := hrel
  have HGH := Kh hgh; have HA := Kh harr; have HGR := Kh hgr
  clear hgh
  have hrl : (List.replicate x u0 ++ List.replicate (k - x) 0).length = k := by
   have := HGH.out; simp; omega
  by_cases hx : x < k
  ·have hx' : (x : Int) < k := by omega
   have cx := harr.nat x (by omega)
   have fx := harr.frozen x
   have hset : (List.replicate x u0 ++ List.replicate (k - x) 0).set x u0 = List.replicate (x + 1) u0 ++ List.replicate (k - (x + 1)) 0 := by
    rw [List.set_append_right _ _ (by simp), List.length_replicate, Nat.sub_self, show k - x = (k - (x + 1)) + 1 by omega, List.replicate_succ, List.set_cons_zero, List.replicate_succ', List.append_assoc]
    rfl
   have HSET := Kh hset
   have HRL := Kh hrl
   clear harr hgr hset hrl
   go_wp2
   go_roundg (k - (x + 1))
   case measure => have := HGH.out; omega
   case rel => exact ⟨x + 1, by have := HGH.out; omega, by go_num, by rw [← HSET.out]; exact HA.out.nat_set x (by rw [HRL.out]; exact hx) u0, zH HGR.out (zC wr ⟨g, x, none⟩ _)⟩
  ·have hxk : x = k := by have := HGH.out; omega
   subst hxk
   have hr : List.replicate x u0 ++ List.replicate (x - x) 0 = List.replicate x u0 := by simp
   rw [hr] at HA
   obtain ⟨cur, rest, hcur, _⟩ := HA2.out
   have HBR := Kh (HB2.out.off hgr hcur HGN.out hg0)
   obtain ⟨c0, c1, f1⟩ := HBR.out.cells
   clear hcur hrl hr harr HA2 HB2
   have hbz := zJ HBR.out.box
   go_wp2_with (first | (at_builtin; refine lN rfl _ _ _ rfl oH bb (.slice sn t.length cn) t.length (gs.map (rowv x)) rfl HBR.out.own (rowv x g) rfl rfl ?a1 ?a2 ?a3 ?_; (case a1 => (unfold maxLen; omega)); (case a2 => omega); (case a3 => omega); intro sn6 cn6 w6 hown6 hg6 hz6 hmv6; (have HO6 := Kh hown6); (have HG6 := Kh hg6); (have hb6 := zA HBR.out.box hg6 (zK HBR.out.own HBR.out.box (by decide))); (have hc6 : w6.cell? ⟨bb, 1, none⟩ = some (.slice sn t.length cn) := by simpa using zO hb6 1 (by simp)); (have hf6 := zE hb6 1); clear hown6 hg6 hmv6 hb6) | fail)
   go_ret
   exact ⟨g, sn6, cn6, rfl, HBR.out.push (by simp) HA.out (fun y hy e => HGN.out (e ▸ hy)) hg0 HO6.out HG6.out rfl⟩
def preN (k : Nat) (b : List Nat) (j : Nat) : List Nat := (List.range k).map fun a => if b.getD j 0 = a then 2 + j else 0
def vK (k : Nat) (b : List Nat) (m : Nat) : List (List Nat) := (List.range m).map (preN k b)
theorem set_replicate {k a c : Nat} : (List.replicate k 0).set a c = (List.range k).map fun i => if a = i then c else 0 := by
 refine List.ext_getElem (by simp) fun i h1 h2 => ?_
 rw [List.getElem_set]; simp
theorem preNs_succ (k : Nat) (b : List Nat) (m : Nat) : vK k b (m + 1) = vK k b m ++ [preN k b m] := by
 simp [vK, List.range_succ]
theorem mX {c : Nat} (h : 97 ≤ c) (h2 : c < 256) : IntKind.u8.wrap ((c : Int) - 97) = ((c - 97 : Nat) : Int) := by
 unfold IntKind.wrap; simp [IntKind.bits, IntKind.signed]; omega
theorem byte_facts0 {u : ByteArray} {k i : Nat} (h : ∀ i (hi : i < u.size), 97 ≤ u[i].toNat ∧ u[i].toNat - 97 < k) (hi : i < u.size) : ∃ b a : Nat, (u[i].toNat : Int) = (b : Int) ∧ IntKind.u8.wrap ((b : Int) - 97) = (a : Int) ∧ ((b : Int) - 97) % 256 = (a : Int) ∧ a < k ∧ (zD u).getD i 0 = a := by
 have hb := h i hi
 have h256 : u[i].toNat < 256 := u[i].toNat_lt
 exact ⟨u[i].toNat, u[i].toNat - 97, rfl, mX hb.1 h256, by omega, hb.2, uG hi⟩
def mS (W0 : World) (bb k : Nat) (t : List (List Nat)) (e : Ending) (W' : World) : Prop := ∃ gs sn cn, e = .returned (.tuple #[]) ∧ BB W0 W' bb k t gs sn cn
set_option maxRecDepth 100000 in
set_option maxHeartbeats 800000 in
theorem bprefix_any (W0 W : World) (bb k : Nat) (t : List (List Nat)) (gs : List Nat) (sn : Option Addr) (cn : Nat) (u : ByteArray) (h : BB W0 W bb k t gs sn cn) (ht : t.length = 1) (hk1 : 1 ≤ k) (hk6 : k ≤ 6) (hu : zM u (k : Int) = true) (hl : u.size ≤ 64) :
  Calls Try.prog 45 #[.pointer (some ⟨bb, 0, none⟩), .string u] W (mS W0 bb k (t ++ vK k (zD u) u.size)) := by
 have H := Kh h
 have HU := Kh (wH hu)
 have hl1 : t.length ≤ 1 := by omega
 have HT := Kh ht
 clear h hu ht
 go_enter Try.func45, Try.ntmps45
 go_wp2_with fail
 go_loopg [4, 5, 8] u.size (fun gh a4 a5 i wr => ∃ (j : Nat) (gs : List Nat) (sn : Option Addr) (cn : Nat), gh + j = u.size ∧ i = .int .i64 j ∧ BB W0 wr bb k (t ++ vK k (zD u) j) gs sn cn)
 case atStart => exact ⟨0, gs, sn, cn, rfl, rfl, by simpa [vK] using H.out⟩
 case round =>
  clear H
  obtain ⟨j, gs, sn, cn, hgh, rfl, hbb⟩ := hrel
  have HGH := Kh hgh; have HBB := Kh hbb
  clear hgh
  by_cases hj : j < u.size
  ·have hj' : (j : Int) < u.size := by omega
   have htl : (t ++ vK k (zD u) j).length = j + 1 := by have := HT.out; simp [vK]; omega
   have HTL := Kh htl
   go_wp2_with fail
   refine (uL W0 wr bb k _ gs sn cn 0 hbb hk1 hk6 (by omega)).mono ?_
   rintro e w1 ⟨g, sn1, cn1, rfl, hb1⟩
   obtain ⟨c0, c1, f1⟩ := hb1.cells
   have hr := hb1.last
   rw [List.length_append, htl] at c1
   have hb := HU.out.2.1 j hj
   obtain ⟨by0, hby⟩ : ∃ b, b = u[j].toNat := ⟨_, rfl⟩
   have h256 : by0 < 256 := by rw [hby]; exact u[j].toNat_lt
   rw [← hby] at hb
   obtain ⟨a, ha⟩ : ∃ a, a = by0 - 97 := ⟨_, rfl⟩
   have hu8 := mX hb.1 h256
   rw [← ha] at hu8
   have hu8' : ((by0 : Int) - 97) % 256 = (a : Int) := by omega
   have hak : a < k := by omega
   have hak' : (a : Int) < k := by omega
   have ca := hr.1.nat a (by simp; omega)
   have fa := hr.1.frozen a
   have hlet : (zD u).getD j 0 = a := by rw [uG hj, ← hby, ha]
   have HL := Kh hlet; have HB1 := Kh hb1; have HR := Kh hr; 
   have hbys : (u[j].toNat : Int) = (by0 : Int) := by rw [hby]
   clear hb hby ha hr hbb hb1 hlet htl
   go_wp2_with fail
   go_region
   all_goals (try go_frame)
   all_goals go_wp2
   all_goals
    go_roundg (u.size - (j + 1))
    case measure => have := HGH.out; omega
    case rel =>
     have hp := (HB1.out.putLast hak (2 + j)).grow (zW _ none)
     have e : ((2 + j : Nat) : Int) = (j : Int) + 1 + 1 := by omega
     rw [e, set_replicate, ← HL.out, List.append_assoc] at hp
     rw [← HL.out]
     exact ⟨j + 1, gs ++ [g], sn1, cn1, by have := HGH.out; omega, by go_num, by rw [preNs_succ]; exact hp⟩
  ·have hju : j = u.size := by have := HGH.out; omega
   subst hju
   go_wp2
   exact bodyPost_ret (v := .tuple #[]) (by simp [results, Try.results45, go_sem]) rfl ⟨gs, sn, cn, rfl, hbb⟩
def wJ (letters : Int) : Nat → List Int → List Int × Bool
 | 0, l => (l, false)
 | i + 1, l => if l.getD i 0 - 97 < letters - 1 then (l.set i (l.getD i 0 + 1), true) else wJ letters i (l.set i 97)
theorem nextAt_stop {letters : Int} {j : Nat} {c : List Int} (hj : j < c.length) (h : c[j] - 97 < letters - 1) : wJ letters (j + 1) c = (c.set j (c[j] + 1), true) := by
 have h3 : c.getD j 0 = c[j] := by simp [List.getD, hj]
 unfold wJ; rw [h3, if_pos h]
theorem nextAt_go {letters : Int} {j : Nat} {c : List Int} (hj : j < c.length) (h : ¬ c[j] - 97 < letters - 1) : wJ letters (j + 1) c = wJ letters j (c.set j 97) := by
 have h3 : c.getD j 0 = c[j] := by simp [List.getD, hj]
 rw [wJ, h3, if_neg h]
set_option maxRecDepth 100000 in
set_option maxHeartbeats 400000 in
theorem next_word (g cap : Nat) (l : List Int) (letters : Int) (w : World) (h1 : 1 ≤ letters) (h6 : letters ≤ 6) (hok : ∀ n ∈ l, tP letters n) (hlen : l.length ≤ 1000)
  (hown : Arr w g 5 (l.map (Value.int .u8))) :
  Calls Try.prog 66 #[.slice (some ⟨g, 0, none⟩) l.length cap, .int .i64 letters] w fun e w' =>
   e = .returned (.bool (wJ letters l.length l).2) ∧ Arr w' g 5 ((wJ letters l.length l).1.map (Value.int .u8)) ∧ w.grownBy w' (some g) := by
 go_enter Try.func66, Try.ntmps66
 go_wp2
 go_loopw [5] (fun i wr => ∃ (c : List Int) (k : Nat), i = .int .i64 ((k : Int) - 1) ∧ k ≤ l.length ∧ c.length = l.length ∧ (∀ n ∈ c, tP letters n) ∧ wJ letters k c = wJ letters l.length l ∧
   Arr wr g 5 (c.map (Value.int .u8)) ∧ w.grownBy wr (some g))
  (fun i _ => (intOf i + 1).toNat)
 case atStart => exact ⟨l, l.length, rfl, Nat.le_refl _, rfl, hok, rfl, hown, yJ _ _⟩
 case round =>
  clear hown
  obtain ⟨c, k, rfl, hk, hcl, hco, hn, hown, hg⟩ := hrel
  have CL := Kh hcl; have NX := Kh hn; clear hcl hn
  by_cases hp : 0 < k
  ·obtain ⟨j, rfl⟩ : ∃ j, k = j + 1 := ⟨k - 1, by omega⟩
   have hj : j < c.length := by rw [CL.out]; omega
   have hc := hown.cell j (by simpa using hj)
   have hf := hown.frozen j
   rw [List.getElem_map] at hc
   have hm := hco _ (List.getElem_mem hj)
   have hm1 := hm.1
   have hm2 := hm.2
   have hst := hown.set j (by simpa using hj) (.int .u8 (c[j] + 1))
   have hst' := hown.set j (by simpa using hj) (.int .u8 97)
   have e1 : ((j + 1 : Nat) : Int) - 1 = j := by omega
   rw [e1]
   have OW := Kh hown; have S1 := Kh hst; have S2 := Kh hst'; clear hown hst hst' e1 hm
   by_cases hlt : c[j] - 97 < letters - 1
   ·go_wp2
    go_ret
    rw [← NX.out, nextAt_stop hj (by omega)]
    exact ⟨rfl, by rw [List.map_set]; exact S1.out, zH hg (zC _ _ _)⟩
   ·go_wp2
    go_roundw
    case rel =>
     refine ⟨c.set j 97, j, rfl, by omega, by simp [CL.out], ?_, by rw [← NX.out, nextAt_go hj (by omega)], by rw [List.map_set]; exact S2.out, zH hg (zC _ _ _)⟩
     intro n hn
     rcases List.mem_or_eq_of_mem_set hn with hn | hn
     ·exact hco n hn
     ·subst hn; unfold tP; omega
    case measure => simp [intOf]
  ·obtain rfl : k = 0 := by omega
   go_wp2
   go_ret
   rw [← NX.out]
   exact ⟨rfl, hown, hg⟩
end Go.Proofs.Ytgbfaggnnfoamaa
