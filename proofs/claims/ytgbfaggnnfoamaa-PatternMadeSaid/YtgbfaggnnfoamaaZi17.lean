/- Part 17 of the proof: Shelf, Repeat. -/
import Derived.Test.YtgbfaggnnfoamaaZi16
import Derived.Shelf.Small.Wraps
import Derived.Shelf.Strings.Search1
import Derived.Shelf.Strings.Search2
import Derived.Shelf.Strings.Cut
import Derived.Shelf.LaysM
import Derived.Shelf.Strings.Shaped
import Derived.Shelf.Strings.Prefix
import Derived.Shelf.Bits.Mul64
import Derived.Test.YtgbfaggnnfoamaaProg
import Derived.Lib.MakeNoZero
import Derived.Lib.SlBuf
import Derived.Laws.Externs
set_option linter.unusedVariables false
set_option linter.unusedSimpArgs false
namespace Go.Proofs
open Go.Shelf
def Try.lays103_ren : Go.Shelf.Ren := ⟨fun | 103 => 37 | 210 => 55 | 206 => 67 | n => n, fun | 9 => 9 | 4 => 4 | 24 => 66 | 3 => 3 | n => n, fun | n => n⟩
theorem Try.lays103 : Go.Proofs.Lays.n103 Try.prog Try.lays103_ren := {
 mixed := by kernel_rfl
 f103 := Try.func37.trans (congrArg some (by kernel_rfl))
 f206 := Try.func67.trans (congrArg some (by kernel_rfl))
 f210 := Try.func55.trans (congrArg some (by kernel_rfl))
 t3 := Try.underlying3
 a3 := Try.isAgg3
 z3 := Try.sizeOf3
 v3 := Try.zeroValue3
 t4 := Try.underlying4
 a4 := Try.isAgg4
 z4 := Try.sizeOf4
 v4 := Try.zeroValue4
 t9 := Try.underlying9
 a9 := Try.isAgg9
 z9 := Try.sizeOf9
 v9 := Try.zeroValue9
 t24 := Try.underlying66
 a24 := Try.isAgg66
 z24 := Try.sizeOf66
 v24 := Try.zeroValue66 }
open Go.RowKit in
theorem Try.strings_CutPrefix (s p : ByteArray) (w : World) :
  Calls Try.prog 37 #[.string s, .string p] w fun e w' => e = .returned (.tuple #[.string ⟨(Lib.trimPrefix s.data.toList p.data.toList).toArray⟩, .bool (Lib.hasPrefix s.data.toList p.data.toList)]) ∧ w' = w := Any.strings_CutPrefix Try.lays103 s p w
def Try.lays145_ren : Go.Shelf.Ren := ⟨fun | 145 => 38 | 220 => 56 | 219 => 68 | 217 => 75 | 225 => 76 | 224 => 77 | 267 => 78 | 266 => 88 | 314 => 89 | n => n, fun | 9 => 9 | 4 => 4 | 59 => 68 | 3 => 3 | 5 => 5 | 46 => 98 | 146 => 114 | 51 => 113 | n => n, fun | 1 => 0 | n => n⟩
theorem Try.lays145 : Go.Proofs.Lays.n145 Try.prog Try.lays145_ren := {
 mixed := by kernel_rfl
 f145 := Try.func38.trans (congrArg some (by kernel_rfl))
 f217 := Try.func75.trans (congrArg some (by kernel_rfl))
 f219 := Try.func68.trans (congrArg some (by kernel_rfl))
 f220 := Try.func56.trans (congrArg some (by kernel_rfl))
 f224 := Try.func77.trans (congrArg some (by kernel_rfl))
 f225 := Try.func76.trans (congrArg some (by kernel_rfl))
 f266 := Try.func88.trans (congrArg some (by kernel_rfl))
 f267 := Try.func78.trans (congrArg some (by kernel_rfl))
 f314 := Try.func89.trans (congrArg some (by kernel_rfl))
 t3 := Try.underlying3
 a3 := Try.isAgg3
 z3 := Try.sizeOf3
 v3 := Try.zeroValue3
 t4 := Try.underlying4
 a4 := Try.isAgg4
 z4 := Try.sizeOf4
 v4 := Try.zeroValue4
 t5 := Try.underlying5
 a5 := Try.isAgg5
 z5 := Try.sizeOf5
 v5 := Try.zeroValue5
 t9 := Try.underlying9
 a9 := Try.isAgg9
 z9 := Try.sizeOf9
 v9 := Try.zeroValue9
 t46 := Try.underlying98
 a46 := Try.isAgg98
 z46 := Try.sizeOf98
 v46 := Try.zeroValue98
 t51 := Try.underlying113
 a51 := Try.isAgg113
 z51 := Try.sizeOf113
 v51 := Try.zeroValue113
 t59 := Try.underlying68
 a59 := Try.isAgg68
 z59 := Try.sizeOf68
 v59 := Try.zeroValue68
 t146 := Try.underlying114
 a146 := Try.isAgg114
 z146 := Try.sizeOf114
 v146 := Try.zeroValue114
 g1 := by kernel_rfl }
open Go.RowKit Go.Lib in
theorem Try.strings_Cut (s sep : ByteArray) (m : Int) (w : World) (hs : s.size < 4294967281) (hm : w.cell? ⟨0, 0, none⟩ = some (.int .i64 m)) :
  Calls Try.prog 38 #[.string s, .string sep] w fun e w' => e = .returned (.tuple #[.string ⟨(Lib.cut s.data.toList sep.data.toList).1.toArray⟩, .string ⟨(Lib.cut s.data.toList sep.data.toList).2.1.toArray⟩, .bool (Lib.cut s.data.toList sep.data.toList).2.2]) ∧ ∃ n, w' = w.drewN n := Any.strings_Cut Try.lays145 s sep m w hs hm
def Try.lays100_ren : Go.Shelf.Ren := ⟨fun | 100 => 39 | 207 => 57 | n => n, fun | 9 => 9 | 4 => 4 | 3 => 3 | n => n, fun | n => n⟩
theorem Try.lays100 : Go.Proofs.Lays.n100 Try.prog Try.lays100_ren := {
 mixed := by kernel_rfl
 f100 := Try.func39.trans (congrArg some (by kernel_rfl))
 f207 := Try.func57.trans (congrArg some (by kernel_rfl))
 t3 := Try.underlying3
 a3 := Try.isAgg3
 z3 := Try.sizeOf3
 v3 := Try.zeroValue3
 t4 := Try.underlying4
 a4 := Try.isAgg4
 z4 := Try.sizeOf4
 v4 := Try.zeroValue4
 t9 := Try.underlying9
 a9 := Try.isAgg9
 z9 := Try.sizeOf9
 v9 := Try.zeroValue9 }
open Go.RowKit Go.Lib in
theorem Try.strings_HasSuffix (s p : ByteArray) (w : World) (hs : s.size ≤ 9223372036854775807) :
  Calls Try.prog 39 #[.string s, .string p] w fun e w' => e = .returned (.bool (Lib.hasSuffix s.data.toList p.data.toList)) ∧ w' = w := Any.strings_HasSuffix Try.lays100 s p w hs
def Try.lays212_ren : Go.Shelf.Ren := ⟨fun | 212 => 73 | 263 => 86 | 264 => 87 | n => n, fun | 46 => 98 | 51 => 113 | 146 => 114 | 53 => 116 | 148 => 117 | n => n, fun | n => n⟩
theorem Try.lays212 : Go.Proofs.Lays.n212 Try.prog Try.lays212_ren := {
 mixed := by kernel_rfl
 f212 := Try.func73.trans (congrArg some (by kernel_rfl))
 f263 := Try.func86.trans (congrArg some (by kernel_rfl))
 f264 := Try.func87.trans (congrArg some (by kernel_rfl))
 t46 := Try.underlying98
 a46 := Try.isAgg98
 z46 := Try.sizeOf98
 v46 := Try.zeroValue98
 t51 := Try.underlying113
 a51 := Try.isAgg113
 z51 := Try.sizeOf113
 v51 := Try.zeroValue113
 t53 := Try.underlying116
 a53 := Try.isAgg116
 z53 := Try.sizeOf116
 v53 := Try.zeroValue116
 t146 := Try.underlying114
 a146 := Try.isAgg114
 z146 := Try.sizeOf114
 v146 := Try.zeroValue114
 t148 := Try.underlying117
 a148 := Try.isAgg117
 z148 := Try.sizeOf117
 v148 := Try.zeroValue117 }
open Go.RowKit Go.Lib in
theorem Try.bits_Mul (x y : Nat) (hx : x < 18446744073709551616) (hy : y < 18446744073709551616) (w : World) :
  Calls Try.prog 73 #[.int .u64 x, .int .u64 y] w fun e w' => e = .returned (.tuple #[.int .u64 ((x * y / 18446744073709551616 : Nat) : Int), .int .u64 ((x * y % 18446744073709551616 : Nat) : Int)]) ∧ w' = w := Any.bits_Mul Try.lays212 x y hx hy w
end Go.Proofs
namespace Go.Proofs.Ytgbfaggnnfoamaa
open Go.RowKit
def sR (w : World) (g N k : Nat) : Prop := ∃ xs : List Value, Arr w g 5 xs ∧ xs.length = N ∧ k ≤ N ∧ xs.take k = List.replicate k (.int .u8 97)
theorem sR.of_heap {w w' : World} {g N k : Nat} (h : sR w g N k) (he : w'.heap = w.heap) : sR w' g N k := by
 obtain ⟨xs, h1, h2, h3, h4⟩ := h
 exact ⟨xs, h1.of_heap he, h2, h3, h4⟩
theorem Arr.setCells {g : Nat} {e : TypeId} : ∀ (vs : List Value) (o : Nat) {w : World} {xs : List Value}, Arr w g e xs → o + vs.length ≤ xs.length → Arr (w.setCells g o vs) g e (xs.take o ++ vs ++ xs.drop (o + vs.length))
 | [], o, w, xs, h, _ => by simpa [World.setCells] using h
 | v :: r, o, w, xs, h, hl => by
  rw [List.length_cons] at hl
  have := Arr.setCells r (o + 1) (h.set o (by omega) v) (by rw [List.length_set]; omega)
  rw [World.setCells]
  have e1 : (xs.set o v).take (o + 1) = xs.take o ++ [v] := by
   rw [List.take_succ_eq_append_getElem (by rw [List.length_set]; omega), List.take_set_of_le (by omega)]
   simp
  rw [e1, List.drop_set_of_lt (by omega)] at this
  rw [List.length_cons, show o + (r.length + 1) = o + 1 + r.length by omega]
  simpa using this
theorem sP (g : Nat) : ∀ (vs : List Value) (o : Nat) (w : World), w.grownBy (w.setCells g o vs) (some g)
 | [], _, w => zO w _
 | v :: r, o, w => zE (zC w ⟨g, o, none⟩ v) (sP g r (o + 1) _)
theorem sR.step {w : World} {g N k m : Nat} (h : sR w g N k) (hm : k + m ≤ N) : sR (w.setCells g k (List.replicate m (.int .u8 97))) g N (k + m) := by
 obtain ⟨xs, h1, h2, h3, h4⟩ := h
 refine ⟨_, h1.setCells _ k (by simp; omega), by simp; omega, hm, ?_⟩
 rw [List.append_assoc, List.take_append, h4]
 simp only [List.length_replicate]
 rw [List.take_of_length_le (by simp), show k + m - k = m by omega, List.take_left' (by simp), List.replicate_append_replicate]
theorem run_copy_self {w : World} {g N k m : Nat} (h : sR w g N k) (hk : 0 < k) (hm : m = min k (N - k)) (ty : TypeId) (c1 c2 : Nat) :
  (Builtin.copy_ #[64, 64] ty #[.slice (some ⟨g, k, none⟩) (N - k) c1, .slice (some ⟨g, 0, none⟩) k c2]).run Try.prog w = .ok (.int .i64 m) (w.setCells g k (List.replicate m (.int .u8 97))) := by
 obtain ⟨xs, h1, h2, h3, h4⟩ := h
 have hr := run_copy_cells (P := Try.prog) w 64 64 ty 5 g k (N - k) c1 ⟨g, 0, none⟩ k c2 (List.replicate m (.int .u8 97)) Try.underlying64 (by kernel_rfl) (by simp [hm])
  (fun j u hj => by
   have hjm : j < m := by
    rcases Nat.lt_or_ge j m with h | h
    ·exact h
    ·simp [List.getElem?_eq_none (show (List.replicate m (Value.int .u8 97)).length ≤ j by simpa using h)] at hj
   rw [List.getElem?_eq_getElem (by simpa using hjm), List.getElem_replicate] at hj
   have hadd : (⟨g, 0, none⟩ : Addr).add j = ⟨g, j, none⟩ := by unfold Addr.add; split <;> simp_all
   rw [hadd, h1.cell j (by omega), ← hj]
   have : xs[j]'(by omega) = (xs.take k)[j]'(by simp; omega) := by simp
   rw [this]
   simp [h4])
  (fun j hj => by rw [List.length_replicate] at hj; rw [h1.cell _ (by omega)]; rfl) (fun j _ => h1.frozen _) (fun u hu => by rw [(List.mem_replicate.1 hu).2]; rfl)
 rw [hr, List.length_replicate]
 rfl
theorem mul_one_any (n : Nat) (hn : n ≤ 1000) (w : World) :
  Calls Try.prog 73 #[.int .u64 1, .int .u64 n] w fun e w' => e = .returned (.tuple #[.int .u64 0, .int .u64 n]) ∧ w = w' := by
 refine (Try.bits_Mul 1 n (by omega) (by omega) w).mono ?_
 rintro e w' ⟨rfl, rfl⟩
 refine ⟨?_, rfl⟩
 have h1 : 1 * n / 18446744073709551616 = 0 := by omega
 have h2 : 1 * n % 18446744073709551616 = n := by omega
 rw [h1, h2]; rfl
theorem step_copy {P : Program} {ops : Array Oper} {o : Oper} {a : Act} {w : World} {K : Act → World → Prop} {Q : Exit → Act → World → Prop} {E : Prop}
  (hg : o.guard = none) (d x : Operand) (dT sT : TypeId) (hop : o.op = Op.call { callee := Callee.builtin Builtin.copy, args := #[d, x], argTypes := #[dT, sT] })
  (v u : Value) (hd : a.eval d = v) (hx : a.eval x = u) {v' : Value} {w' : World} (hr : (Builtin.copy_ #[dT, sT] o.type #[v, u]).run P w = .ok v' w') (hK : K (a.put o.dst v') w') :
  if Region.wanted o (yielded ops a.tmps) = true then Oper.wp P o a w K Q else E := by
 have hw : Region.wanted o (yielded ops a.tmps) = true := by simp [Region.wanted, hg]
 rw [if_pos hw]
 unfold Oper.wp
 simp [execOp, hop, resolve, invoke, builtin, hd, hx, hr, Result.andThen]
 exact hK
def Repeated (w : World) (n : Nat) (e : Ending) (w' : World) : Prop :=
 ∃ (g cap : Nat), e = .returned (.slice (some ⟨g, 0, none⟩) n cap) ∧ w.heap.size ≤ g ∧ n ≤ cap ∧ cap ≤ maxLen ∧ Arr w' g 5 ((List.replicate n (97 : Int)).map (Value.int .u8)) ∧ w.grownBy w' none
set_option maxRecDepth 100000 in
set_option maxHeartbeats 400000 in
theorem repeat_a (b : Nat) (n : Nat) (w : World) (hn : n ≤ 8) (hc : Arr w b 5 [.int .u8 97]) :
  Calls Try.prog 65 #[.slice (some ⟨b, 0, none⟩) 1 1, .int .i64 n] w (Repeated w n) := by
 by_cases h0 : n = 0
 ·subst h0
  go_enter Try.func65, Try.ntmps65
  go_wp2
  go_ret
  exact ⟨w.heap.size, 0, rfl, Nat.le_refl _, Nat.le_refl _, by unfold maxLen; omega, Arr.new w _ #[], World.grownBy_alloc _ _ _⟩
 ·have h0' : ((n : Int) == 0) = false := by rw [beq_eq_false_iff_ne]; omega
  have h00 : ¬ (n : Int) < 0 := by omega
  have hb := hc.lt
  obtain ⟨cs, hrunM, hle, hmx⟩ := Lib.run_makeNoZero (P := Try.prog) w #[3] 64 5 Try.underlying64 n (by omega)
  have hcall : (callFunc 74 #[.int .i64 n]).run Try.prog w = .ok (.value (.slice (some ⟨w.heap.size, 0, none⟩) n cs.size)) ((w.alloc (.cells cs 5)).drewN 2) := by
   rw [run_callFunc_extern Try.func74 (by kernel_rfl) (by kernel_rfl) (by kernel_rfl) (e := Extern.BytealgMakeNoZero.makeNoZero #[3] #[64]) (by kernel_rfl), hrunM]
   rfl
  clear hrunM
  go_enter Try.func65, Try.ntmps65
  go_wp2_with fail
  refine (mul_one_any n (by omega) _).mono ?_
  rintro e w1 ⟨rfl, rfl⟩
  have i1 : (n : Int) ≤ (cs.size : Int) := by omega
  obtain ⟨W0, hW0⟩ : ∃ W0, W0 = (w.alloc (.cells cs 5)).drewN 2 := ⟨_, rfl⟩
  have g0 : w.grownBy W0 none := by rw [hW0]; exact yZ (World.grownBy_alloc w _ none) rfl rfl rfl rfl
  have F0 : sR W0 w.heap.size n 0 := by
   rw [hW0]
   refine sR.of_heap (w := w.alloc (.cells cs 5)) ⟨cs.toList.take n, ?_, by simp; omega, Nat.zero_le _, by simp⟩ rfl
   have := Arr.new w 5 cs
   rw [← List.take_append_drop n cs.toList] at this
   exact this.front
  have hr1 : (Builtin.copy_ #[64, 64] 3 #[.slice (some ⟨w.heap.size, 0, none⟩) n n, .slice (some ⟨b, 0, none⟩) 1 1]).run Try.prog W0 = .ok (.int .i64 1) (W0.setCells w.heap.size 0 [.int .u8 97]) := by
   have hb0 := (hc.kept g0 (by simp)).cell 0 (by simp)
   obtain ⟨xs, h1, h2, h3, h4⟩ := F0
   exact run_copy_cells (P := Try.prog) W0 64 64 3 5 w.heap.size 0 n n ⟨b, 0, none⟩ 1 1 [.int .u8 97] Try.underlying64 (by kernel_rfl) (by simp [Nat.min_def]; omega)
    (fun j u hj => by
     match j, hj with
     | 0, hj => simp at hj; subst hj; simpa [Addr.add] using hb0)
    (fun j hj => by simp at hj; subst hj; rw [h1.cell _ (by omega)]; rfl) (fun j _ => h1.frozen _) (fun u hu => by simp at hu; rw [hu]; rfl)
  have F1 := sR.step (m := 1) F0 (by omega)
  have g1 : w.grownBy (W0.setCells w.heap.size 0 [.int .u8 97]) none := zB g0 (zC W0 ⟨w.heap.size, 0, none⟩ _) (by simp)
  rw [hW0] at hr1 F1 g1
  clear g0 F0 hW0
  go_wp2
  clear hr1
  go_loopw [10] (fun bp wr => ∃ k : Nat, bp = .int .i64 k ∧ 1 ≤ k ∧ k ≤ n ∧ sR wr w.heap.size n k ∧ w.grownBy wr none)
   (fun bp _ => n - (intOf bp).toNat)
  case atStart => exact ⟨1, rfl, Nat.le_refl _, by omega, F1, g1⟩
  case round =>
   clear F1 g1 hcall
   obtain ⟨k, rfl, hk1, hkn, hF, hg⟩ := hrel
   by_cases hlt : k < n
   ·have hmin : min (k : Int) (n : Int) = k := by omega
    obtain ⟨m, hm⟩ : ∃ m, m = min k (n - k) := ⟨_, rfl⟩
    have hm1 : 1 ≤ m := by omega
    have hmk : k + m ≤ n := by omega
    have hcp : ∀ W : World, W.heap = wr.heap → (Builtin.copy_ #[64, 64] 3 #[.slice (some ⟨w.heap.size, k, none⟩) (n - k) (n - k), .slice (some ⟨w.heap.size, 0, none⟩) k n]).run Try.prog W = .ok (.int .i64 m) (W.setCells w.heap.size k (List.replicate m (.int .u8 97))) :=
     fun W e => run_copy_self (hF.of_heap e) (by omega) hm _ _ _
    have HM := Kh hm; clear hm
    have hnk : ¬ n = k := by omega
    have HC := Kh hcp; clear hcp
    have e1 : IntKind.i64.wrap ((k : Int) + m) = (k : Int) + m := IntWalk.i64_in _ (by omega)
    go_wp2
    go_region_law (refine step_copy rfl (.tmp 70) (.tmp 73) 64 64 rfl (.slice (some ⟨w.heap.size, k, none⟩) (n - k) (n - k)) (.slice (some ⟨w.heap.size, 0, none⟩) k n) (by simp [Act.eval, Act.put, hnk]) (by simp [Act.eval, Act.put]) (HC.out _ rfl) ?_)
    all_goals
     have F2 : sR (wr.drew.setCells w.heap.size k (List.replicate m (.int .u8 97))) w.heap.size n (k + m) := (hF.of_heap (w' := wr.drew) rfl).step hmk
     have g2 : w.grownBy (wr.drew.setCells w.heap.size k (List.replicate m (.int .u8 97))) none := zB (show w.grownBy wr.drew none from yZ hg rfl rfl rfl rfl) (sP _ _ _ _) (by simp)
     go_frame
     go_roundw
     case rel => ((repeat apply Exists.intro); exact ⟨⟨k + m, by go_num, by omega, by omega, F2, g2⟩, rfl⟩)
     case measure => simp [intOf]; omega
   ·obtain rfl : k = n := by omega
    go_wp2
    go_ret
    obtain ⟨xs, h1, h2, h3, h4⟩ := hF
    refine ⟨_, _, rfl, Nat.le_refl _, Nat.le_refl _, by unfold maxLen; omega, ?_, hg⟩
    rw [List.take_of_length_le (by omega)] at h4
    rw [h4] at h1
    simpa using h1
end Go.Proofs.Ytgbfaggnnfoamaa
