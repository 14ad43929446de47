/- Part 17 of the proof: Dfa, MapNo. -/
import Derived.Test.YtdjhoadoiknaoaaDoorZq16
import Derived.Maps.OwnSet
import Derived.Maps.OwnOps
set_option linter.unusedVariables false
set_option linter.unusedSimpArgs false
namespace Go.Proofs.YtdjhoadoiknaoaaDoor
open Go.RowKit
def DfaOk (B : Nat) (w : World) (v : Value) (d : DfaV) : Prop := ∃ fv nv, v = .agg #[.int .i64 d.letters, .int .i64 d.start, fv, nv] ∧ Row B w fv (bls d.final) ∧ Mat B w nv d.next
theorem DfaOk.kept {B : Nat} {w w' : World} {v : Value} {d : DfaV} {row : Option Nat} (h : DfaOk B w v d) (hg : w.grownBy w' row) (hr : ∀ k, row = some k → B ≤ k) : DfaOk B w' v d := by
 obtain ⟨fv, nv, h1, h2, h3⟩ := h
 exact ⟨fv, nv, h1, h2.kept hg hr, h3.kept hg hr⟩
theorem DfaOk.mono {B B' : Nat} {w : World} {v : Value} {d : DfaV} (h : DfaOk B w v d) (hB : B ≤ B') : DfaOk B' w v d := by
 obtain ⟨fv, nv, h1, h2, h3⟩ := h
 exact ⟨fv, nv, h1, h2.mono hB, h3.mono hB⟩
theorem validD_letters {d : DfaV} (h : d.letters < 1 ∨ 6 < d.letters) : tF d = 1 := by rw [tF, if_pos h]
theorem validD_big {d : DfaV} (h : ¬ (d.letters < 1 ∨ 6 < d.letters)) (h2 : 512 < d.final.length) : tF d = 3 := by rw [tF, if_neg h, if_pos h2]
theorem validD_shape {d : DfaV} (h : ¬ (d.letters < 1 ∨ 6 < d.letters)) (h2 : ¬ 512 < d.final.length) (h3 : d.final.length = 0 ∨ d.next.length ≠ d.final.length ∨ d.start < 0 ∨ d.final.length ≤ d.start) : tF d = 4 := by rw [tF, if_neg h, if_neg h2, if_pos h3]
theorem validD_row {d : DfaV} (h : ¬ (d.letters < 1 ∨ 6 < d.letters)) (h2 : ¬ 512 < d.final.length) (h3 : ¬ (d.final.length = 0 ∨ d.next.length ≠ d.final.length ∨ d.start < 0 ∨ d.final.length ≤ d.start)) {q : Nat} (hq : q < d.next.length) (hb : rowD d.letters d.final.length (d.next.getD q []) = false) : tF d = 4 := by
 rw [tF, if_neg h, if_neg h2, if_neg h3, if_neg]
 intro ha
 have := List.all_eq_true.1 ha d.next[q] (List.getElem_mem hq)
 rw [zN hq, this] at hb; cases hb
theorem validD_ok {d : DfaV} (h : ¬ (d.letters < 1 ∨ 6 < d.letters)) (h2 : ¬ 512 < d.final.length) (h3 : ¬ (d.final.length = 0 ∨ d.next.length ≠ d.final.length ∨ d.start < 0 ∨ d.final.length ≤ d.start)) (ha : ∀ q, q < d.next.length → rowD d.letters d.final.length (d.next.getD q []) = true) : tF d = 0 := by
 rw [tF, if_neg h, if_neg h2, if_neg h3, if_pos]
 rw [List.all_eq_true]
 intro r hr
 obtain ⟨q, hq, rfl⟩ := List.getElem_of_mem hr
 have := ha q hq
 rwa [zN hq] at this
theorem rowD_len {k : Int} {n : Nat} {r : List Int} (h : (r.length : Int) ≠ k) : rowD k n r = false := by simp [rowD, h]
theorem rowD_bad {k : Int} {n : Nat} {r : List Int} {y : Nat} (hy : y < r.length) (h : r.getD y 0 < 0 ∨ n ≤ r.getD y 0) : rowD k n r = false := by
 rw [← Bool.not_eq_true]
 intro hr
 have := (rowD_iff.1 hr).2 y hy
 omega
def DRows (d : DfaV) (k : Nat) : Prop := ∀ x, x < k → rowD d.letters d.final.length (d.next.getD x []) = true
set_option maxHeartbeats 800000 in
theorem validate7_any (B : Nat) (w : World) (v : Value) (d : DfaV) (hB : B ≤ w.heap.size) (h : DfaOk B w v d) :
  Calls Tryd.prog 44 #[v] w fun e w' => e = .returned (.int .i64 (tF d)) ∧ w.grownBy w' none := by
 obtain ⟨fv, nv, rfl, hf, hn⟩ := h
 have hfl := hf.len_le
 rw [wD] at hfl
 unfold maxLen at hfl
 have hnl := hn.len_le
 unfold maxLen at hnl
 obtain ⟨fa, fc, rfl⟩ := hf.shape
 rw [wD] at hf ⊢
 obtain ⟨na, nc, rfl⟩ := hn.shape
 have HN := Kh hn
 obtain ⟨n, hnn⟩ : ∃ n, n = d.final.length := ⟨_, rfl⟩
 obtain ⟨m, hmm⟩ : ∃ m, m = d.next.length := ⟨_, rfl⟩
 obtain ⟨L, hL⟩ : ∃ L, L = d.letters := ⟨_, rfl⟩
 obtain ⟨S, hS⟩ : ∃ S, S = d.start := ⟨_, rfl⟩
 rw [← hnn] at hfl ⊢
 rw [← hmm] at hnl HN ⊢
 rw [← hL, ← hS]
 have HNN := Kh hnn; have HMM := Kh hmm; have HLL := Kh hL; have HSS := Kh hS
 clear hf hn hnn hmm hL hS
 obtain ⟨wA, hWA⟩ : ∃ wA, wA = w.alloc (.cells #[.int .i64 L, .int .i64 S, .slice fa n fc, .slice na m nc] 28) := ⟨_, rfl⟩
 have hbox : wA.heap[w.heap.size]? = some (.cells #[.int .i64 L, .int .i64 S, .slice fa n fc, .slice na m nc] 28 (0, 0)) := by rw [hWA]; exact heap_alloc_new w _
 have hgA : w.grownBy wA none := by rw [hWA]; exact World.grownBy_alloc w _ none
 have c0 := zJ hbox 0 (by simp)
 have c1 := zJ hbox 1 (by simp)
 have c2 := zJ hbox 2 (by simp)
 have c3 := zJ hbox 3 (by simp)
 simp only [List.getElem_toArray, List.getElem_cons_zero, List.getElem_cons_succ] at c0 c1 c2 c3
 have HGA := Kh hgA; have HWA := Kh hWA
 clear hbox hgA hWA
 by_cases hl : L < 1 ∨ 6 < L
 ·have HE := Kh (validD_letters (d := d) (by rw [← HLL.out]; exact hl))
  have hm1 : decide (1 ≤ L ∧ L ≤ 6) = false := decide_eq_false (by omega)
  go_enter Tryd.func44, Tryd.ntmps44
  go_wp2_with fail
  rw [← HWA.out]
  refine (wH wA L).mono ?_
  rintro e w1 ⟨rfl, rfl⟩
  rw [hm1]
  go_wp2
  go_ret
  exact ⟨yG HE.out.symm, HGA.out⟩
 ·have hl1 : 1 ≤ L := by omega
  have hl6 : L ≤ 6 := by omega
  have HLT : Hid (¬ (d.letters < 1 ∨ 6 < d.letters)) := Kh (by rw [← HLL.out]; exact hl)
  have hm1 : decide (1 ≤ L ∧ L ≤ 6) = true := decide_eq_true (by omega)
  clear hl
  by_cases h5 : 512 < n
  ·have HE := Kh (validD_big HLT.out (by rw [← HNN.out]; exact h5))
   go_enter Tryd.func44, Tryd.ntmps44
   go_wp2_with fail
   rw [← HWA.out]
   refine (wH wA L).mono ?_
   rintro e w1 ⟨rfl, rfl⟩
   rw [hm1]
   go_wp2
   go_ret
   exact ⟨yG HE.out.symm, HGA.out⟩
  ·have H5 : Hid (¬ 512 < d.final.length) := Kh (by rw [← HNN.out]; exact h5)
   by_cases hsh : n = 0 ∨ m ≠ n ∨ S < 0 ∨ n ≤ S
   ·have HE := Kh (validD_shape HLT.out H5.out (by rw [← HNN.out, ← HMM.out, ← HSS.out]; exact hsh))
    by_cases h0 : n = 0
    ·have e0 : ((n : Int) == 0) = true := by rw [beq_iff_eq]; omega
     clear hsh h0
     go_enter Tryd.func44, Tryd.ntmps44
     go_wp2_with fail
     rw [← HWA.out]
     refine (wH wA L).mono ?_
     rintro e w1 ⟨rfl, rfl⟩
     rw [hm1]
     go_wp2
     go_ret
     exact ⟨yG HE.out.symm, HGA.out⟩
    ·have e0 : ((n : Int) == 0) = false := by rw [beq_eq_false_iff_ne]; omega
     by_cases hmn : m = n
     ·have e1 : ((m : Int) != n) = false := by rw [hmn]; simp
      have HMN := Kh hmn
      by_cases hs : S < 0
      ·clear hsh hmn
       go_enter Tryd.func44, Tryd.ntmps44
       go_wp2_with fail
       rw [← HWA.out]
       refine (wH wA L).mono ?_
       rintro e w1 ⟨rfl, rfl⟩
       rw [hm1]
       go_wp2
       go_ret
       exact ⟨yG HE.out.symm, HGA.out⟩
      ·have hs2 : (n : Int) ≤ S := by omega
       clear hsh hmn
       go_enter Tryd.func44, Tryd.ntmps44
       go_wp2_with fail
       rw [← HWA.out]
       refine (wH wA L).mono ?_
       rintro e w1 ⟨rfl, rfl⟩
       rw [hm1]
       go_wp2
       go_ret
       exact ⟨yG HE.out.symm, HGA.out⟩
     ·have e1 : ((m : Int) != n) = true := by rw [bne_iff_ne]; omega
      clear hsh
      go_enter Tryd.func44, Tryd.ntmps44
      go_wp2_with fail
      rw [← HWA.out]
      refine (wH wA L).mono ?_
      rintro e w1 ⟨rfl, rfl⟩
      rw [hm1]
      go_wp2
      go_ret
      exact ⟨yG HE.out.symm, HGA.out⟩
   ·have HSH : Hid (¬ (d.final.length = 0 ∨ d.next.length ≠ d.final.length ∨ d.start < 0 ∨ d.final.length ≤ d.start)) := Kh (by rw [← HNN.out, ← HMM.out, ← HSS.out]; exact hsh)
    have h0 : 0 < n := by omega
    have e0 : ((n : Int) == 0) = false := by rw [beq_eq_false_iff_ne]; omega
    have hmn : m = n := by omega
    have e1 : ((m : Int) != n) = false := by rw [hmn]; simp
    have hs1 : 0 ≤ S := by omega
    have hs2 : S < n := by omega
    have hm0 : 0 < m := by omega
    have hN2 : Mat B wA (.slice na m nc) d.next := HN.out.kept HGA.out (by simp)
    obtain ⟨b, off, cap, A, C, e, hc1, hc2, hma⟩ := hN2.some_ (by rw [← HMM.out]; exact hm0)
    simp only [Value.slice.injEq] at e
    obtain ⟨rfl, -, rfl⟩ := e
    rw [← HMM.out] at hc1
    have hmx : nc ≤ 9223372036854775807 := by unfold maxLen at hc2; omega
    have HM := Kh hma
    have HMN := Kh hmn
    clear hsh hmn hN2 hma
    go_enter Tryd.func44, Tryd.ntmps44
    go_wp2_with fail
    rw [← HWA.out]
    refine (wH wA L).mono ?_
    rintro e w1 ⟨rfl, rfl⟩
    rw [hm1]
    go_wp2
    go_loopg [40] m (fun g i wr => ∃ k : Nat, g + k = m ∧ i = .int .i64 k ∧ DRows d k ∧ wA = wr)
    case atStart => exact ⟨0, rfl, rfl, fun x hx => absurd hx (by omega), rfl⟩
    case round =>
     obtain ⟨k, hg, rfl, hok, rfl⟩ := hrel
     have OK := Kh hok; have HG := Kh hg
     clear hok hg
     by_cases hk : k < m
     ·have hkl : k < d.next.length := by rw [← HMM.out]; exact hk
      have hcx := HM.out.hd k hkl
      have hrow := HM.out.row k hkl
      have hrl := hrow.len_le
      rw [zU] at hrl
      unfold maxLen at hrl
      obtain ⟨r, hr⟩ : ∃ r, r = d.next.getD k [] := ⟨_, rfl⟩
      rw [← hr] at hcx hrow hrl
      have HR := Kh hr; have HKL := Kh hkl
      clear hr hkl
      by_cases hlr : (r.length : Int) = L
      ·have HLR := Kh hlr
       have hl' : ((r.length : Int) != L) = false := by rw [hlr]; simp
       obtain ⟨rb, ro, rc, e, hb, h1, h2, hra⟩ := hrow.some_ (by rw [zU]; omega)
       simp only [Value.slice.injEq] at e
       obtain ⟨eA, -, rfl⟩ := e
       rw [eA] at hcx
       rw [zU] at h1
       have HA := Kh eA; have RA := Kh hra
       clear eA hra hlr hrow
       go_wp2
       go_loopg [51] r.length (fun g j wr' => ∃ y : Nat, g + y = r.length ∧ j = .int .i64 y ∧ EntsOk n r y ∧ wA = wr')
       case atStart => exact ⟨0, rfl, rfl, fun x hx => absurd hx (by omega), rfl⟩
       case round =>
        obtain ⟨y, hg, rfl, hok, rfl⟩ := hrel
        have OKY := Kh hok; have HG2 := Kh hg
        clear hok hg
        by_cases hy : y < r.length
        ·have hcy := RA.out.int y hy
         obtain ⟨z, hz⟩ : ∃ z, z = r.getD y 0 := ⟨_, rfl⟩
         rw [← hz] at hcy
         have HZ := Kh hz
         clear hz
         by_cases hb1 : z < 0
         ·have HE := Kh (validD_row HLT.out H5.out HSH.out HKL.out (by rw [← HR.out]; exact rowD_bad (y := y) hy (by rw [← HZ.out]; exact .inl hb1)))
          go_wp2
          go_ret
          exact ⟨yG HE.out.symm, HGA.out⟩
         ·by_cases hb2 : (n : Int) ≤ z
          ·have HE := Kh (validD_row HLT.out H5.out HSH.out HKL.out (by rw [← HR.out]; exact rowD_bad (y := y) hy (by rw [← HZ.out, ← HNN.out]; exact .inr hb2)))
           go_wp2
           go_ret
           exact ⟨yG HE.out.symm, HGA.out⟩
          ·go_wp2
           go_roundg (r.length - (y + 1))
           case measure => have := HG2.out; omega
           case rel =>
            refine ⟨y + 1, by omega, by go_num, fun x hx => ?_, rfl⟩
            rcases Nat.lt_succ_iff_lt_or_eq.1 hx with hx | rfl
            ·exact OKY.out x hx
            ·rw [← HZ.out]; omega
        ·go_wp2
         go_roundg (m - (k + 1))
         case measure => have := HG.out; omega
         case rel =>
          refine ⟨k + 1, by omega, by go_num, fun x hx => ?_, rfl⟩
          rcases Nat.lt_succ_iff_lt_or_eq.1 hx with hx | rfl
          ·exact OK.out x hx
          ·rw [← HR.out, rowD_iff, ← HNN.out, ← HLL.out]
           exact ⟨HLR.out, fun z hz => OKY.out z (by omega)⟩
      ·have hl' : ((r.length : Int) != L) = true := by rw [bne_iff_ne]; exact hlr
       have HE := Kh (validD_row HLT.out H5.out HSH.out HKL.out (by rw [← HR.out]; exact rowD_len (by rw [← HLL.out]; exact hlr)))
       clear hlr
       go_wp2
       go_ret
       exact ⟨yG HE.out.symm, HGA.out⟩
     ·have HE := Kh (validD_ok HLT.out H5.out HSH.out (fun q hq => OK.out q (by have := HMM.out; omega)))
      go_wp2
      go_ret
      exact ⟨yG HE.out.symm, HGA.out⟩
end Go.Proofs.YtdjhoadoiknaoaaDoor
namespace Go.Proofs.YtdjhoadoiknaoaaDoor
open Go.RowKit Go.Maps
theorem mapno_under : Tryd.prog.underlying 135 = some (.map 3 3) := by kernel_rfl
theorem rB : Tryd.prog.underlying 3 = some (.int .i64) := by kernel_rfl
theorem zero_int (w : World) : (zeroValue 3).run Tryd.prog w = .ok (.int .i64 0) w := by kernel_rfl
def Mid (x : Int) : Prop := -4611686018427387904 < x ∧ x < 4611686018427387904
theorem mid_wf {x : Int} (hx : Mid x) : (Lit.int .i64 x).wf = true := by
 have h1 : IntKind.i64.min = -9223372036854775808 := rfl
 have h2 : IntKind.i64.max = 9223372036854775807 := rfl
 obtain ⟨h3, h4⟩ := hx
 simp [Lit.wf]; omega
theorem mid_key {x : Int} (hx : Mid x) : keyOf Tryd.prog 3 (.int .i64 x) = some (.int .i64 x) := keyOf_int_mk (q := .i64) (by kernel_rfl) (mid_wf hx)
def MapNo (w : World) (b n : Nat) (l : List Int) : Prop :=
 ∃ D : DataW Unit, w.ownsMap Tryd.prog 3 (plainElem Tryd.prog 3) b n D ∧ size D = l.length ∧
  ∀ x : Int, Mid x → has D (.int .i64 x) = decide (x ∈ l) ∧ D.atKey (.int .i64 x) (.lit (.int .i64 0)) = .lit (.int .i64 (if x ∈ l then ((l.idxOf x : Nat) : Int) else 0))
theorem MapNo.made (w : World) : MapNo (w.alloc (.map #[] 0)) w.heap.size 0 [] := by
 refine ⟨.map [], World.ownsMap_made _ _ _ _, rfl, fun x _ => ⟨by simp [has_eq], ?_⟩⟩
 rw [WideAt.atKey_none _ (by simp)]
 simp
theorem MapNo.kept {w w' : World} {b n : Nat} {l : List Int} {row : Option Nat} (h : MapNo w b n l) (hg : w.grownBy w' row) (hne : row ≠ some b) : MapNo w' b n l := by
 obtain ⟨D, h1, h2, h3⟩ := h
 exact ⟨D, h1.kept hg (fun e => hne e.symm), h2, h3⟩
theorem MapNo.mono {w : World} {b n n' : Nat} {l : List Int} (h : MapNo w b n l) (hn : n ≤ n') : MapNo w b n' l := by
 obtain ⟨D, h1, h2, h3⟩ := h
 exact ⟨D, h1.mono hn, h2, h3⟩
theorem MapNo.lt {w : World} {b n : Nat} {l : List Int} (h : MapNo w b n l) : b < w.heap.size := by
 obtain ⟨D, h1, _⟩ := h
 exact h1.lt
theorem MapNo.lookup {w : World} {b n : Nat} {l : List Int} (h : MapNo w b n l) {x : Int} (hx : Mid x) : (Instr.lookup 135 (.map (some b)) (.int .i64 x) true).run Tryd.prog w = .ok (.tuple #[.int .i64 (if x ∈ l then ((l.idxOf x : Nat) : Int) else 0), .bool (decide (x ∈ l))]) w := by
 obtain ⟨D, h1, h2, h3⟩ := h
 obtain ⟨v, ps, hrun, hv⟩ := h1.look_ok key_int mapno_under (zero_int w) (plainElem_int rB (by decide)) (mid_key hx)
 obtain ⟨c, rfl, hc, _⟩ := plainElem_int_inv rB hv
 obtain ⟨e1, e2⟩ := h3 x hx
 have e3 := congrArg Prod.fst hc
 simp only [e2] at e3
 rw [hrun, e1]
 have e4 : (if x ∈ l then ((l.idxOf x : Nat) : Int) else 0) = c := by
  simp only [Lit.int.injEq, DataW.lit.injEq, true_and] at e3
  exact e3
 rw [e4]
theorem MapNo.len {w : World} {b n : Nat} {l : List Int} (h : MapNo w b n l) : (Builtin.len_ #[135] 3 #[.map (some b)]).run Tryd.prog w = .ok (.int .i64 (l.length : Nat)) w := by
 obtain ⟨D, h1, h2, h3⟩ := h
 have hrun := h1.len mapno_under 3
 rw [h2] at hrun
 exact hrun
theorem step_putNo {w : World} {ops : Array Oper} {rest : List Oper} {o : Oper} {a : Act} {Q : Exit → Act → World → Prop} (hg : o.guard = none) (m x v : Operand) (hop : o.op = Op.mapUpdate 135 m x v)
  (b n : Nat) (l : List Int) (z : Int) (hm : a.eval m = .map (some b)) (hx : a.eval x = .int .i64 z) (hv : a.eval v = .int .i64 (l.length : Nat)) (h : MapNo w b n l) (hn : n < maxLen) (hz : Mid z) (hnew : z ∉ l) (hll : l.length < 4611686018427387904)
  (hK : ∀ w', MapNo w' b (n + 1) (l ++ [z]) → w.grownBy w' (some b) → wpList Tryd.prog ops Q rest (a.put o.dst undef) w') :
  wpList Tryd.prog ops Q (o :: rest) a w := by
 obtain ⟨D, h1, h2, h3⟩ := h
 obtain ⟨w', hrun, hown, hgr⟩ := h1.update key_int mapno_under hn (mid_key hz) (plainElem_int rB (mid_wf (x := ((l.length : Nat) : Int)) ⟨by omega, by omega⟩))
 have hkz : WideAt.IsKeyLit (.int .i64 z) := by simp [WideAt.IsKeyLit]
 refine wpList_plain hg fun K' hK' => ?_
 unfold Oper.wp
 simp [execOp, hop, hm, hx, hv, hrun, Result.andThen]
 refine hK' _ _ (hK w' ⟨_, hown, ?_, fun y hy => ?_⟩ hgr)
 ·rw [size_put (h1.tidy key_int), (h3 z hz).1, decide_eq_false hnew, h2]; simp
 ·by_cases e : y = z
  ·subst e
   refine ⟨by rw [has_put_same h1.isMap hkz]; simp, ?_⟩
   rw [atKey_put_same h1.isMap hkz, if_pos (by simp), List.idxOf_append, if_neg hnew]
   simp
  ·have hne : (Lit.int .i64 y) ≠ Lit.int .i64 z := by intro h; injection h with _ h; exact e h
   obtain ⟨e1, e2⟩ := h3 y hy
   refine ⟨by rw [has_put_other hne, e1]; simp [e], ?_⟩
   rw [atKey_put_other hne, e2]
   by_cases hyl : y ∈ l
   ·rw [if_pos hyl, if_pos (by simp [hyl]), List.idxOf_append, if_pos hyl]
   ·rw [if_neg hyl, if_neg (by simp [hyl, e])]
def wY (l : List Nat) (k : Nat) : List Nat := l.take k ++ List.replicate (l.length - k) 0
theorem sB (l : List Nat) : wY l 0 = List.replicate l.length 0 := by simp [wY]
theorem fillTo_end (l : List Nat) : wY l l.length = l := by simp [wY]
theorem yS {l : List Nat} {k : Nat} (h : k ≤ l.length) : (wY l k).length = l.length := by simp [wY]; omega
theorem fillTo_set {l : List Nat} {k : Nat} (h : k < l.length) : (wY l k).set k (l.getD k 0) = wY l (k + 1) := by
 have hl : (l.take k).length = k := by simp; omega
 unfold wY
 rw [List.set_append_right _ _ (by omega), hl, Nat.sub_self, yA (d := 0) h, show l.length - k = (l.length - (k + 1)) + 1 by omega, List.replicate_succ, List.set_cons_zero, List.append_assoc]
 rfl
def NumOk (w : World) (p : List Nat) (e : Ending) (w' : World) : Prop :=
 ∃ g, e = .returned (.slice (some ⟨g, 0, none⟩) p.length p.length) ∧ w.heap.size ≤ g ∧ Arr w' g 3 (nats p) ∧ w.grownBy w' none
theorem numb_step {l : List Int} {k : Nat} (hk : k < l.length) : (numb l).getD k 0 = if l[k] ∈ yF (l.take k) then (yF (l.take k)).idxOf l[k] else (yF (l.take k)).length := by
 rw [zN (by rw [xH]; exact hk), numb_get hk, ← numb_take hk, List.take_succ_eq_append_getElem hk, tZ]
 by_cases h : l[k] ∈ yF (l.take k)
 ·rw [tQ h, if_pos h]
 ·rw [tR h, if_neg h, List.idxOf_append, if_neg h]; simp
set_option maxRecDepth 100000 in
set_option maxHeartbeats 800000 in
theorem number_any (B : Nat) (w : World) (v : Value) (l : List Int) (hB : B ≤ w.heap.size) (h : Row B w v (ints l)) (hmid : ∀ x ∈ l, Mid x) (hle : l.length ≤ 100000) :
  Calls Tryd.prog 101 #[v] w (NumOk w (numb l)) := by
 have hmm := @run_makeMap Tryd.prog
 obtain ⟨va, vc, rfl⟩ := h.shape
 rw [zU] at h ⊢
 have H := Kh h; have HM := Kh hmid
 clear h hmid
 obtain ⟨w1, hw1⟩ : ∃ w1, w1 = w.alloc (.map #[] 0) := ⟨_, rfl⟩
 have hg1 : w.grownBy w1 none := by rw [hw1]; exact World.grownBy_alloc w _ none
 have hz1 : w1.heap.size = w.heap.size + 1 := by rw [hw1, zM]
 have HM1 : Hid (MapNo w1 w.heap.size 0 []) := Kh (by rw [hw1]; exact MapNo.made w)
 have HG1 := Kh hg1; have HW1 := Kh hw1
 clear hg1 hw1
 go_enter Tryd.func101, Tryd.ntmps101
 go_upto_region 2 with fail
 rw [← HW1.out]
 go_wp2_with (first | (at_make; refine make1 rfl _ _ _ rfl yD rfl .i64 .i64 _ _ l.length rfl rfl rfl rfl ?b1 ?b2 ?_) | fail)
 case b1 => omega
 case b2 => unfold maxLen; omega
 intro w2 harr hg2 hlt2
 have HA2 := Kh harr; have HG2 := Kh hg2
 have hz2 := hg2.size
 clear harr hg2
 obtain ⟨g, hg⟩ : ∃ g, g = w.heap.size + 1 := ⟨_, rfl⟩
 rw [← hg] at HA2 ⊢
 have hgg : w.heap.size < g := by omega
 have hgl : g < w2.heap.size := by omega
 clear hg hlt2
 go_wp2
 go_loopg [5, 6, 7, 8, 15] l.length (fun gh a5 a6 a7 a8 i wr => ∃ k : Nat, gh + k = l.length ∧ i = .int .i64 k ∧ Arr wr g 3 (nats (wY (numb l) k)) ∧ MapNo wr w.heap.size k (yF (l.take k)) ∧ w.grownBy wr none)
 case atStart => exact ⟨0, rfl, rfl, by rw [sB, xH, wG]; exact HA2.out, by simpa [yF] using HM1.out.kept HG2.out (by simp), zF HG1.out HG2.out⟩
 case round =>
  clear HA2 HG2
  obtain ⟨k, hg, rfl, harr, hmap, hgr⟩ := hrel
  have HG := Kh hg; have HA := Kh harr; have HMP := Kh hmap; have HGR := Kh hgr
  have hzr := hgr.size
  have hln : (numb l).length = l.length := xH l
  clear hg hmap
  by_cases hk : k < l.length
  ·have hk' : (k : Int) < l.length := by omega
   obtain ⟨ib, io, ic, e, _, _, _, hra⟩ := (H.out.kept hgr (by simp)).some_ (by rw [zU]; omega)
   simp only [Value.slice.injEq] at e
   obtain ⟨rfl, -, -⟩ := e
   have ck := hra.int k hk
   have hmk : Mid (l.getD k 0) := by rw [zN hk]; exact HM.out _ (List.getElem_mem hk)
   have hns := numb_step hk
   rw [← zN (d := 0) hk] at hns
   have hfk : yF (l.take (k + 1)) = uF (yF (l.take k)) (l.getD k 0) := by rw [List.take_succ_eq_append_getElem hk, tZ, zN hk]
   obtain ⟨x, hx⟩ : ∃ x, x = l.getD k 0 := ⟨_, rfl⟩
   rw [← hx] at ck hmk hns hfk
   have hlen := tK (l.take k)
   rw [List.length_take] at hlen
   have hlk := HMP.out.lookup hmk
   have hset := fillTo_set (l := numb l) (k := k) (by omega)
   have hfz := frozen_of_row wr g k
   have cgk := harr.nat k (by rw [yS (by omega)]; omega)
   have hfl : (nats (wY (numb l) k)).length = l.length := by rw [zL, yS (by omega)]; omega
   have fgk := harr.frozen k
   clear hra hx hgr harr
   by_cases hin : x ∈ yF (l.take k)
   ·rw [if_pos hin, decide_eq_true hin] at hlk
    rw [if_pos hin] at hns
    have HFK : Hid (yF (l.take (k + 1)) = yF (l.take k)) := Kh (by rw [hfk, tQ hin])
    obtain ⟨c, hc⟩ : ∃ c, c = (yF (l.take k)).idxOf x := ⟨_, rfl⟩
    rw [← hc] at hlk hns
    rw [hns] at hset
    have HS := Kh hset
    clear hns hset hc hfk hin
    go_wp2
    go_roundg (l.length - (k + 1))
    case measure => have := HG.out; omega
    case rel =>
     refine ⟨k + 1, by omega, by go_num, ?_, ?_, ?_⟩
     ·rw [← HS.out]; exact HA.out.nat_set k (by rw [yS (by omega)]; omega) c
     ·rw [HFK.out]
      exact (HMP.out.kept (zH wr ⟨g, k, none⟩ _) (by simp; omega)).mono (by omega)
     ·exact zG HGR.out (zH wr ⟨g, k, none⟩ _) (fun q e => by have := Option.some.inj e; simp at this; omega)
   ·rw [if_neg hin, decide_eq_false hin] at hlk
    rw [if_neg hin] at hns
    have HFK : Hid (yF (l.take (k + 1)) = yF (l.take k) ++ [x]) := Kh (by rw [hfk, tR hin])
    have HIN := Kh hin; have HMK := Kh hmk
    rw [hns] at hset
    have HS := Kh hset
    clear hns hset hfk hin cgk fgk
    obtain ⟨L, hL⟩ : ∃ L, L = yF (l.take k) := ⟨_, rfl⟩
    rw [← hL] at HMP HFK HIN HS hlen
    have hlr := HMP.out.len
    clear hL
    go_wp2_with (first | (at_mapUpdate; refine step_putNo rfl _ _ _ rfl w.heap.size k L x rfl rfl rfl HMP.out (by unfold maxLen; omega) HMK.out HIN.out (by omega) ?_; intro w5 hmap5 hg5; (have ha5 := HA.out.kept hg5 (by simp; omega)); (have HMP5 := Kh hmap5); (have HG5 := Kh hg5); (have HA5 := Kh ha5); (have fg5 := ha5.frozen k); (have cg5 := ha5.nat k (by rw [yS (by omega)]; omega)); clear hmap5 hg5 ha5) | fail)
    go_roundg (l.length - (k + 1))
    case measure => have := HG.out; omega
    case rel =>
     have hz5 := HG5.out.size
     refine ⟨k + 1, by omega, by go_num, ?_, ?_, ?_⟩
     ·rw [← HS.out]; exact HA5.out.nat_set k (by rw [yS (by omega)]; omega) _
     ·rw [HFK.out]
      exact HMP5.out.kept (zH w5 ⟨g, k, none⟩ _) (by simp; omega)
     ·exact zG (zG HGR.out HG5.out (fun q e => by have := Option.some.inj e; omega)) (zH w5 ⟨g, k, none⟩ _) (fun q e => by have := Option.some.inj e; simp at this; omega)
  ·have hkl : k = l.length := by have := HG.out; omega
   have HE : Hid (wY (numb l) k = numb l) := Kh (by rw [hkl, ← hln]; exact fillTo_end _)
   clear hkl harr
   go_wp2
   go_ret
   refine ⟨g, by rw [hln]; rfl, by omega, ?_, HGR.out⟩
   rw [← HE.out]; exact HA.out
end Go.Proofs.YtdjhoadoiknaoaaDoor
