/- Part 16 of the proof: BPre, Made, MadeWord, Fam1, Shelf. -/
import Derived.Test.YtgbfaggnnfoamaaZh15
import Derived.BigRegion
import Derived.Shelf.Small.Wraps
import Derived.Shelf.Strings.Search1
import Derived.Shelf.Strings.Search2
import Derived.Shelf.Strings.Cut
import Derived.Shelf.LaysM
import Derived.Shelf.Strings.Shaped
import Derived.Shelf.Strings.Prefix
import Derived.Shelf.Bits.Mul64
import Derived.Test.YtgbfaggnnfoamaaProg
set_option linter.unusedVariables false
set_option linter.unusedSimpArgs false
namespace Go.Proofs.Ytgbfaggnnfoamaa
open Go.RowKit
def preN (k : Nat) (b : List Nat) (j : Nat) : List Nat := (List.range k).map fun a => if b.getD j 0 = a then 2 + j else 0
def uZ (k : Nat) (b : List Nat) (m : Nat) : List (List Nat) := (List.range m).map (preN k b)
theorem set_replicate {k a c : Nat} : (List.replicate k 0).set a c = (List.range k).map fun i => if a = i then c else 0 := by
 refine List.ext_getElem (by simp) fun i h1 h2 => ?_
 rw [List.getElem_set]; simp
theorem preNs_succ (k : Nat) (b : List Nat) (m : Nat) : uZ k b (m + 1) = uZ k b m ++ [preN k b m] := by
 simp [uZ, List.range_succ]
theorem u8_sub {c : Nat} (h : 97 ≤ c) (h2 : c < 256) : IntKind.u8.wrap ((c : Int) - 97) = ((c - 97 : Nat) : Int) := by
 unfold IntKind.wrap; simp [IntKind.bits, IntKind.signed]; omega
def RowsLeft (W0 : World) (bb k : Nat) (t : List (List Nat)) (e : Ending) (W' : World) : Prop := ∃ gs sn cn, e = .returned (.tuple #[]) ∧ BB W0 W' bb k t gs sn cn
set_option maxRecDepth 100000 in
set_option maxHeartbeats 800000 in
theorem bprefix_any (W0 W : World) (bb k : Nat) (t : List (List Nat)) (gs : List Nat) (sn : Option Addr) (cn : Nat) (u : ByteArray) (h : BB W0 W bb k t gs sn cn) (ht : t.length = 1) (hk1 : 1 ≤ k) (hk6 : k ≤ 6) (hu : zV u (k : Int) = true) (hl : u.size ≤ 64) :
  Calls Try.prog 45 #[.pointer (some ⟨bb, 0, none⟩), .string u] W (RowsLeft W0 bb k (t ++ uZ k (zH u) u.size)) := by
 have H := Kh h
 have HU := Kh (sO hu)
 have hl1 : t.length ≤ 1 := by omega
 have HT := Kh ht
 clear h hu ht
 go_enter Try.func45, Try.ntmps45
 go_wp2_with fail
 go_loopg [4, 5, 8] u.size (fun gh a4 a5 i wr => ∃ (j : Nat) (gs : List Nat) (sn : Option Addr) (cn : Nat), gh + j = u.size ∧ i = .int .i64 j ∧ BB W0 wr bb k (t ++ uZ k (zH u) j) gs sn cn)
 case atStart => exact ⟨0, gs, sn, cn, rfl, rfl, by simpa [uZ] using H.out⟩
 case round =>
  clear H
  obtain ⟨j, gs, sn, cn, hgh, rfl, hbb⟩ := hrel
  have HGH := Kh hgh; have HBB := Kh hbb
  clear hgh
  by_cases hj : j < u.size
  ·have hj' : (j : Int) < u.size := by omega
   have htl : (t ++ uZ k (zH u) j).length = j + 1 := by have := HT.out; simp [uZ]; omega
   have HTL := Kh htl
   go_wp2_with fail
   refine (sE W0 wr bb k _ gs sn cn 0 hbb hk1 hk6 (by omega)).mono ?_
   rintro e w1 ⟨g, sn1, cn1, rfl, hb1⟩
   obtain ⟨c0, c1, f1⟩ := hb1.cells
   have hr := hb1.last
   rw [List.length_append, htl] at c1
   have hb := HU.out.2.1 j hj
   obtain ⟨by0, hby⟩ : ∃ b, b = u[j].toNat := ⟨_, rfl⟩
   have h256 : by0 < 256 := by rw [hby]; exact u[j].toNat_lt
   rw [← hby] at hb
   obtain ⟨a, ha⟩ : ∃ a, a = by0 - 97 := ⟨_, rfl⟩
   have hu8 := u8_sub hb.1 h256
   rw [← ha] at hu8
   have hu8' : ((by0 : Int) - 97) % 256 = (a : Int) := by omega
   have hak : a < k := by omega
   have hak' : (a : Int) < k := by omega
   have ca := hr.1.nat a (by simp; omega)
   have fa := hr.1.frozen a
   have hlet : (zH u).getD j 0 = a := by rw [pQ hj, ← hby, ha]
   have HL := Kh hlet; have HB1 := Kh hb1; have HR := Kh hr; 
   have hbys : (u[j].toNat : Int) = (by0 : Int) := by rw [hby]
   clear hb hby ha hr hbb hb1 hlet htl
   go_wp2_with fail
   go_region
   all_goals (try go_frame)
   all_goals go_wp2
   all_goals
    go_roundg (u.size - (j + 1))
    case measure => have := HGH.out; omega
    case rel =>
     have hp := (HB1.out.putLast hak (2 + j)).grow (zY _ none)
     have e : ((2 + j : Nat) : Int) = (j : Int) + 1 + 1 := by omega
     rw [e, set_replicate, ← HL.out, List.append_assoc] at hp
     rw [← HL.out]
     exact ⟨j + 1, gs ++ [g], sn1, cn1, by have := HGH.out; omega, by go_num, by rw [preNs_succ]; exact hp⟩
  ·have hju : j = u.size := by have := HGH.out; omega
   subst hju
   go_wp2
   exact bodyPost_ret (v := .tuple #[]) (by simp [results, Try.results45, go_sem]) rfl ⟨gs, sn, cn, rfl, hbb⟩
theorem Row.cut {B : Nat} {w : World} {b off cap : Nat} {xs : List Value} (n : Nat) (hn : n ≤ xs.length) (hb : b < B) (hc : xs.length ≤ cap) (hm : cap ≤ maxLen) (h : wD w b off xs) :
  Row B w (.slice (some ⟨b, off, none⟩) n cap) (xs.take n) :=
 .inr ⟨b, off, cap, by rw [List.length_take, Nat.min_eq_left hn], hb, by rw [List.length_take]; omega, hm, h.1, fun i hi => by
  rw [List.length_take] at hi
  rw [h.2 i (by omega), List.getElem_take]⟩
def okNum (letters : Int) (n : Int) : Prop := 97 ≤ n ∧ n < 97 + letters
def uA (letters : Int) : Nat → List Int → List Int × Bool
 | 0, l => (l, false)
 | i + 1, l => if l.getD i 0 - 97 < letters - 1 then (l.set i (l.getD i 0 + 1), true) else uA letters i (l.set i 97)
theorem nextAt_stop {letters : Int} {j : Nat} {c : List Int} (hj : j < c.length) (h : c[j] - 97 < letters - 1) : uA letters (j + 1) c = (c.set j (c[j] + 1), true) := by
 have h3 : c.getD j 0 = c[j] := by simp [List.getD, hj]
 unfold uA; rw [h3, if_pos h]
theorem nextAt_go {letters : Int} {j : Nat} {c : List Int} (hj : j < c.length) (h : ¬ c[j] - 97 < letters - 1) : uA letters (j + 1) c = uA letters j (c.set j 97) := by
 have h3 : c.getD j 0 = c[j] := by simp [List.getD, hj]
 rw [uA, h3, if_neg h]
set_option maxRecDepth 100000 in
set_option maxHeartbeats 400000 in
theorem next_word (g cap : Nat) (l : List Int) (letters : Int) (w : World) (h1 : 1 ≤ letters) (h6 : letters ≤ 6) (hok : ∀ n ∈ l, okNum letters n) (hlen : l.length ≤ 1000)
  (hown : Arr w g 5 (l.map (Value.int .u8))) :
  Calls Try.prog 66 #[.slice (some ⟨g, 0, none⟩) l.length cap, .int .i64 letters] w fun e w' =>
   e = .returned (.bool (uA letters l.length l).2) ∧ Arr w' g 5 ((uA letters l.length l).1.map (Value.int .u8)) ∧ w.grownBy w' (some g) := by
 go_enter Try.func66, Try.ntmps66
 go_wp2
 go_loopw [5] (fun i wr => ∃ (c : List Int) (k : Nat), i = .int .i64 ((k : Int) - 1) ∧ k ≤ l.length ∧ c.length = l.length ∧ (∀ n ∈ c, okNum letters n) ∧ uA letters k c = uA letters l.length l ∧
   Arr wr g 5 (c.map (Value.int .u8)) ∧ w.grownBy wr (some g))
  (fun i _ => (intOf i + 1).toNat)
 case atStart => exact ⟨l, l.length, rfl, Nat.le_refl _, rfl, hok, rfl, hown, zM _ _⟩
 case round =>
  clear hown
  obtain ⟨c, k, rfl, hk, hcl, hco, hn, hown, hg⟩ := hrel
  have CL := Kh hcl; have NX := Kh hn; clear hcl hn
  by_cases hp : 0 < k
  ·obtain ⟨j, rfl⟩ : ∃ j, k = j + 1 := ⟨k - 1, by omega⟩
   have hj : j < c.length := by rw [CL.out]; omega
   have hc := hown.cell j (by simpa using hj)
   have hf := hown.frozen j
   rw [List.getElem_map] at hc
   have hm := hco _ (List.getElem_mem hj)
   have hm1 := hm.1
   have hm2 := hm.2
   have hst := hown.set j (by simpa using hj) (.int .u8 (c[j] + 1))
   have hst' := hown.set j (by simpa using hj) (.int .u8 97)
   have e1 : ((j + 1 : Nat) : Int) - 1 = j := by omega
   rw [e1]
   have OW := Kh hown; have S1 := Kh hst; have S2 := Kh hst'; clear hown hst hst' e1 hm
   by_cases hlt : c[j] - 97 < letters - 1
   ·go_wp2
    go_ret
    rw [← NX.out, nextAt_stop hj (by omega)]
    exact ⟨rfl, by rw [List.map_set]; exact S1.out, zF hg (zD _ _ _)⟩
   ·go_wp2
    go_roundw
    case rel =>
     refine ⟨c.set j 97, j, rfl, by omega, by simp [CL.out], ?_, by rw [← NX.out, nextAt_go hj (by omega)], by rw [List.map_set]; exact S2.out, zF hg (zD _ _ _)⟩
     intro n hn
     rcases List.mem_or_eq_of_mem_set hn with hn | hn
     ·exact hco n hn
     ·subst hn; unfold okNum; omega
    case measure => simp [intOf]
  ·obtain rfl : k = 0 := by omega
   go_wp2
   go_ret
   rw [← NX.out]
   exact ⟨rfl, hown, hg⟩
end Go.Proofs.Ytgbfaggnnfoamaa
namespace Go.Proofs
open Go.Shelf
def Try.lays103_ren : Go.Shelf.Ren := ⟨fun | 103 => 37 | 210 => 55 | 206 => 67 | n => n, fun | 9 => 9 | 4 => 4 | 24 => 66 | 3 => 3 | n => n, fun | n => n⟩
theorem Try.lays103 : Go.Proofs.Lays.n103 Try.prog Try.lays103_ren := {
 mixed := by kernel_rfl
 f103 := Try.func37.trans (congrArg some (by kernel_rfl))
 f206 := Try.func67.trans (congrArg some (by kernel_rfl))
 f210 := Try.func55.trans (congrArg some (by kernel_rfl))
 t3 := Try.underlying3
 a3 := Try.isAgg3
 z3 := Try.sizeOf3
 v3 := Try.zeroValue3
 t4 := Try.underlying4
 a4 := Try.isAgg4
 z4 := Try.sizeOf4
 v4 := Try.zeroValue4
 t9 := Try.underlying9
 a9 := Try.isAgg9
 z9 := Try.sizeOf9
 v9 := Try.zeroValue9
 t24 := Try.underlying66
 a24 := Try.isAgg66
 z24 := Try.sizeOf66
 v24 := Try.zeroValue66 }
open Go.RowKit in
theorem Try.strings_CutPrefix (s p : ByteArray) (w : World) :
  Calls Try.prog 37 #[.string s, .string p] w fun e w' => e = .returned (.tuple #[.string ⟨(Lib.trimPrefix s.data.toList p.data.toList).toArray⟩, .bool (Lib.hasPrefix s.data.toList p.data.toList)]) ∧ w' = w := Any.strings_CutPrefix Try.lays103 s p w
def Try.lays145_ren : Go.Shelf.Ren := ⟨fun | 145 => 38 | 220 => 56 | 219 => 68 | 217 => 75 | 225 => 76 | 224 => 77 | 267 => 78 | 266 => 88 | 314 => 89 | n => n, fun | 9 => 9 | 4 => 4 | 59 => 68 | 3 => 3 | 5 => 5 | 46 => 98 | 146 => 114 | 51 => 113 | n => n, fun | 1 => 0 | n => n⟩
theorem Try.lays145 : Go.Proofs.Lays.n145 Try.prog Try.lays145_ren := {
 mixed := by kernel_rfl
 f145 := Try.func38.trans (congrArg some (by kernel_rfl))
 f217 := Try.func75.trans (congrArg some (by kernel_rfl))
 f219 := Try.func68.trans (congrArg some (by kernel_rfl))
 f220 := Try.func56.trans (congrArg some (by kernel_rfl))
 f224 := Try.func77.trans (congrArg some (by kernel_rfl))
 f225 := Try.func76.trans (congrArg some (by kernel_rfl))
 f266 := Try.func88.trans (congrArg some (by kernel_rfl))
 f267 := Try.func78.trans (congrArg some (by kernel_rfl))
 f314 := Try.func89.trans (congrArg some (by kernel_rfl))
 t3 := Try.underlying3
 a3 := Try.isAgg3
 z3 := Try.sizeOf3
 v3 := Try.zeroValue3
 t4 := Try.underlying4
 a4 := Try.isAgg4
 z4 := Try.sizeOf4
 v4 := Try.zeroValue4
 t5 := Try.underlying5
 a5 := Try.isAgg5
 z5 := Try.sizeOf5
 v5 := Try.zeroValue5
 t9 := Try.underlying9
 a9 := Try.isAgg9
 z9 := Try.sizeOf9
 v9 := Try.zeroValue9
 t46 := Try.underlying98
 a46 := Try.isAgg98
 z46 := Try.sizeOf98
 v46 := Try.zeroValue98
 t51 := Try.underlying113
 a51 := Try.isAgg113
 z51 := Try.sizeOf113
 v51 := Try.zeroValue113
 t59 := Try.underlying68
 a59 := Try.isAgg68
 z59 := Try.sizeOf68
 v59 := Try.zeroValue68
 t146 := Try.underlying114
 a146 := Try.isAgg114
 z146 := Try.sizeOf114
 v146 := Try.zeroValue114
 g1 := by kernel_rfl }
open Go.RowKit Go.Lib in
theorem Try.strings_Cut (s sep : ByteArray) (m : Int) (w : World) (hs : s.size < 4294967281) (hm : w.cell? ⟨0, 0, none⟩ = some (.int .i64 m)) :
  Calls Try.prog 38 #[.string s, .string sep] w fun e w' => e = .returned (.tuple #[.string ⟨(Lib.cut s.data.toList sep.data.toList).1.toArray⟩, .string ⟨(Lib.cut s.data.toList sep.data.toList).2.1.toArray⟩, .bool (Lib.cut s.data.toList sep.data.toList).2.2]) ∧ ∃ n, w' = w.drewN n := Any.strings_Cut Try.lays145 s sep m w hs hm
def Try.lays100_ren : Go.Shelf.Ren := ⟨fun | 100 => 39 | 207 => 57 | n => n, fun | 9 => 9 | 4 => 4 | 3 => 3 | n => n, fun | n => n⟩
theorem Try.lays100 : Go.Proofs.Lays.n100 Try.prog Try.lays100_ren := {
 mixed := by kernel_rfl
 f100 := Try.func39.trans (congrArg some (by kernel_rfl))
 f207 := Try.func57.trans (congrArg some (by kernel_rfl))
 t3 := Try.underlying3
 a3 := Try.isAgg3
 z3 := Try.sizeOf3
 v3 := Try.zeroValue3
 t4 := Try.underlying4
 a4 := Try.isAgg4
 z4 := Try.sizeOf4
 v4 := Try.zeroValue4
 t9 := Try.underlying9
 a9 := Try.isAgg9
 z9 := Try.sizeOf9
 v9 := Try.zeroValue9 }
open Go.RowKit Go.Lib in
theorem Try.strings_HasSuffix (s p : ByteArray) (w : World) (hs : s.size ≤ 9223372036854775807) :
  Calls Try.prog 39 #[.string s, .string p] w fun e w' => e = .returned (.bool (Lib.hasSuffix s.data.toList p.data.toList)) ∧ w' = w := Any.strings_HasSuffix Try.lays100 s p w hs
def Try.lays212_ren : Go.Shelf.Ren := ⟨fun | 212 => 73 | 263 => 86 | 264 => 87 | n => n, fun | 46 => 98 | 51 => 113 | 146 => 114 | 53 => 116 | 148 => 117 | n => n, fun | n => n⟩
theorem Try.lays212 : Go.Proofs.Lays.n212 Try.prog Try.lays212_ren := {
 mixed := by kernel_rfl
 f212 := Try.func73.trans (congrArg some (by kernel_rfl))
 f263 := Try.func86.trans (congrArg some (by kernel_rfl))
 f264 := Try.func87.trans (congrArg some (by kernel_rfl))
 t46 := Try.underlying98
 a46 := Try.isAgg98
 z46 := Try.sizeOf98
 v46 := Try.zeroValue98
 t51 := Try.underlying113
 a51 := Try.isAgg113
 z51 := Try.sizeOf113
 v51 := Try.zeroValue113
 t53 := Try.underlying116
 a53 := Try.isAgg116
 z53 := Try.sizeOf116
 v53 := Try.zeroValue116
 t146 := Try.underlying114
 a146 := Try.isAgg114
 z146 := Try.sizeOf114
 v146 := Try.zeroValue114
 t148 := Try.underlying117
 a148 := Try.isAgg117
 z148 := Try.sizeOf117
 v148 := Try.zeroValue117 }
open Go.RowKit Go.Lib in
theorem Try.bits_Mul (x y : Nat) (hx : x < 18446744073709551616) (hy : y < 18446744073709551616) (w : World) :
  Calls Try.prog 73 #[.int .u64 x, .int .u64 y] w fun e w' => e = .returned (.tuple #[.int .u64 ((x * y / 18446744073709551616 : Nat) : Int), .int .u64 ((x * y % 18446744073709551616 : Nat) : Int)]) ∧ w' = w := Any.bits_Mul Try.lays212 x y hx hy w
end Go.Proofs
