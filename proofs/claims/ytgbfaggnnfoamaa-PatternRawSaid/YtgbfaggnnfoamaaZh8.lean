/- Part 8 of the proof: Dfa0, MapNo. -/
import Derived.Test.YtgbfaggnnfoamaaZh7
import Derived.Maps.OwnSet
import Derived.Maps.OwnOps
import Derived.Deep.DeepCutAuto
import Derived.Deep.CutBlock
set_option linter.unusedVariables false
set_option linter.unusedSimpArgs false
namespace Go.Proofs.Ytgbfaggnnfoamaa
open Go.RowKit
def vQ (B : Nat) (w : World) (v : Value) (d : DfaV) : Prop := ∃ fv nv, v = .agg #[.int .i64 d.letters, .int .i64 d.start, fv, nv] ∧ Row B w fv (bls d.final) ∧ Mat B w nv d.next
theorem vQ.kept {B : Nat} {w w' : World} {v : Value} {d : DfaV} {row : Option Nat} (h : vQ B w v d) (hg : w.grownBy w' row) (hr : ∀ k, row = some k → B ≤ k) : vQ B w' v d := by
 obtain ⟨fv, nv, h1, h2, h3⟩ := h
 exact ⟨fv, nv, h1, h2.kept hg hr, h3.kept hg hr⟩
theorem vQ.mono {B B' : Nat} {w : World} {v : Value} {d : DfaV} (h : vQ B w v d) (hB : B ≤ B') : vQ B' w v d := by
 obtain ⟨fv, nv, h1, h2, h3⟩ := h
 exact ⟨fv, nv, h1, h2.mono hB, h3.mono hB⟩
theorem validD_letters {d : DfaV} (h : d.letters < 1 ∨ 6 < d.letters) : tR d = 1 := by rw [tR, if_pos h]
theorem validD_big {d : DfaV} (h : ¬ (d.letters < 1 ∨ 6 < d.letters)) (h2 : 512 < d.final.length) : tR d = 3 := by rw [tR, if_neg h, if_pos h2]
theorem validD_shape {d : DfaV} (h : ¬ (d.letters < 1 ∨ 6 < d.letters)) (h2 : ¬ 512 < d.final.length) (h3 : d.final.length = 0 ∨ d.next.length ≠ d.final.length ∨ d.start < 0 ∨ d.final.length ≤ d.start) : tR d = 4 := by rw [tR, if_neg h, if_neg h2, if_pos h3]
theorem oA {d : DfaV} (h : ¬ (d.letters < 1 ∨ 6 < d.letters)) (h2 : ¬ 512 < d.final.length) (h3 : ¬ (d.final.length = 0 ∨ d.next.length ≠ d.final.length ∨ d.start < 0 ∨ d.final.length ≤ d.start)) {q : Nat} (hq : q < d.next.length) (hb : rowD d.letters d.final.length (d.next.getD q []) = false) : tR d = 4 := by
 rw [tR, if_neg h, if_neg h2, if_neg h3, if_neg]
 intro ha
 have := List.all_eq_true.1 ha d.next[q] (List.getElem_mem hq)
 rw [zI hq, this] at hb; cases hb
theorem validD_ok {d : DfaV} (h : ¬ (d.letters < 1 ∨ 6 < d.letters)) (h2 : ¬ 512 < d.final.length) (h3 : ¬ (d.final.length = 0 ∨ d.next.length ≠ d.final.length ∨ d.start < 0 ∨ d.final.length ≤ d.start)) (ha : ∀ q, q < d.next.length → rowD d.letters d.final.length (d.next.getD q []) = true) : tR d = 0 := by
 rw [tR, if_neg h, if_neg h2, if_neg h3, if_pos]
 rw [List.all_eq_true]
 intro r hr
 obtain ⟨q, hq, rfl⟩ := List.getElem_of_mem hr
 have := ha q hq
 rwa [zI hq] at this
theorem rowD_len {k : Int} {n : Nat} {r : List Int} (h : (r.length : Int) ≠ k) : rowD k n r = false := by simp [rowD, h]
theorem rowD_bad {k : Int} {n : Nat} {r : List Int} {y : Nat} (hy : y < r.length) (h : r.getD y 0 < 0 ∨ n ≤ r.getD y 0) : rowD k n r = false := by
 rw [← Bool.not_eq_true]
 intro hr
 have := (kF.1 hr).2 y hy
 omega
def DRows (d : DfaV) (k : Nat) : Prop := ∀ x, x < k → rowD d.letters d.final.length (d.next.getD x []) = true
end Go.Proofs.Ytgbfaggnnfoamaa
namespace Go.Proofs.Ytgbfaggnnfoamaa
open Go.RowKit Go.Maps
theorem vU : Try.prog.underlying 120 = some (.map 3 3) := by kernel_rfl
theorem uB : Try.prog.underlying 3 = some (.int .i64) := by kernel_rfl
theorem nJ (w : World) : (zeroValue 3).run Try.prog w = .ok (.int .i64 0) w := by kernel_rfl
def Mid (x : Int) : Prop := -4611686018427387904 < x ∧ x < 4611686018427387904
theorem mid_wf {x : Int} (hx : Mid x) : (Lit.int .i64 x).wf = true := by
 have h1 : IntKind.i64.min = -9223372036854775808 := rfl
 have h2 : IntKind.i64.max = 9223372036854775807 := rfl
 obtain ⟨h3, h4⟩ := hx
 simp [Lit.wf]; omega
theorem mid_key {x : Int} (hx : Mid x) : keyOf Try.prog 3 (.int .i64 x) = some (.int .i64 x) := keyOf_int_mk (q := .i64) (by kernel_rfl) (mid_wf hx)
def uN (w : World) (b n : Nat) (l : List Int) : Prop :=
 ∃ D : DataW Unit, w.ownsMap Try.prog 3 (plainElem Try.prog 3) b n D ∧ size D = l.length ∧
  ∀ x : Int, Mid x → has D (.int .i64 x) = decide (x ∈ l) ∧ D.atKey (.int .i64 x) (.lit (.int .i64 0)) = .lit (.int .i64 (if x ∈ l then ((l.idxOf x : Nat) : Int) else 0))
theorem uN.made (w : World) : uN (w.alloc (.map #[] 0)) w.heap.size 0 [] := by
 refine ⟨.map [], World.ownsMap_made _ _ _ _, rfl, fun x _ => ⟨by simp [has_eq], ?_⟩⟩
 rw [WideAt.atKey_none _ (by simp)]
 simp
theorem uN.kept {w w' : World} {b n : Nat} {l : List Int} {row : Option Nat} (h : uN w b n l) (hg : w.grownBy w' row) (hne : row ≠ some b) : uN w' b n l := by
 obtain ⟨D, h1, h2, h3⟩ := h
 exact ⟨D, h1.kept hg (fun e => hne e.symm), h2, h3⟩
theorem uN.mono {w : World} {b n n' : Nat} {l : List Int} (h : uN w b n l) (hn : n ≤ n') : uN w b n' l := by
 obtain ⟨D, h1, h2, h3⟩ := h
 exact ⟨D, h1.mono hn, h2, h3⟩
theorem uN.lt {w : World} {b n : Nat} {l : List Int} (h : uN w b n l) : b < w.heap.size := by
 obtain ⟨D, h1, _⟩ := h
 exact h1.lt
theorem uN.lookup {w : World} {b n : Nat} {l : List Int} (h : uN w b n l) {x : Int} (hx : Mid x) : (Instr.lookup 120 (.map (some b)) (.int .i64 x) true).run Try.prog w = .ok (.tuple #[.int .i64 (if x ∈ l then ((l.idxOf x : Nat) : Int) else 0), .bool (decide (x ∈ l))]) w := by
 obtain ⟨D, h1, h2, h3⟩ := h
 obtain ⟨v, ps, hrun, hv⟩ := h1.look_ok kM vU (nJ w) (plainElem_int uB (by decide)) (mid_key hx)
 obtain ⟨c, rfl, hc, _⟩ := plainElem_int_inv uB hv
 obtain ⟨e1, e2⟩ := h3 x hx
 have e3 := congrArg Prod.fst hc
 simp only [e2] at e3
 rw [hrun, e1]
 have e4 : (if x ∈ l then ((l.idxOf x : Nat) : Int) else 0) = c := by
  simp only [Lit.int.injEq, DataW.lit.injEq, true_and] at e3
  exact e3
 rw [e4]
theorem uN.len {w : World} {b n : Nat} {l : List Int} (h : uN w b n l) : (Builtin.len_ #[120] 3 #[.map (some b)]).run Try.prog w = .ok (.int .i64 (l.length : Nat)) w := by
 obtain ⟨D, h1, h2, h3⟩ := h
 have hrun := h1.len vU 3
 rw [h2] at hrun
 exact hrun
theorem oE {w : World} {ops : Array Oper} {rest : List Oper} {o : Oper} {a : Act} {Q : Exit → Act → World → Prop} (hg : o.guard = none) (m x v : Operand) (hop : o.op = Op.mapUpdate 120 m x v)
  (b n : Nat) (l : List Int) (z : Int) (hm : a.eval m = .map (some b)) (hx : a.eval x = .int .i64 z) (hv : a.eval v = .int .i64 (l.length : Nat)) (h : uN w b n l) (hn : n < maxLen) (hz : Mid z) (hnew : z ∉ l) (hll : l.length < 4611686018427387904)
  (hK : ∀ w', uN w' b (n + 1) (l ++ [z]) → w.grownBy w' (some b) → wpList Try.prog ops Q rest (a.put o.dst undef) w') :
  wpList Try.prog ops Q (o :: rest) a w := by
 obtain ⟨D, h1, h2, h3⟩ := h
 obtain ⟨w', hrun, hown, hgr⟩ := h1.update kM vU hn (mid_key hz) (plainElem_int uB (mid_wf (x := ((l.length : Nat) : Int)) ⟨by omega, by omega⟩))
 have hkz : WideAt.IsKeyLit (.int .i64 z) := by simp [WideAt.IsKeyLit]
 refine wpList_plain hg fun K' hK' => ?_
 unfold Oper.wp
 simp [execOp, hop, hm, hx, hv, hrun, Result.andThen]
 refine hK' _ _ (hK w' ⟨_, hown, ?_, fun y hy => ?_⟩ hgr)
 ·rw [size_put (h1.tidy kM), (h3 z hz).1, decide_eq_false hnew, h2]; simp
 ·by_cases e : y = z
  ·subst e
   refine ⟨by rw [has_put_same h1.isMap hkz]; simp, ?_⟩
   rw [atKey_put_same h1.isMap hkz, if_pos (by simp), List.idxOf_append, if_neg hnew]
   simp
  ·have hne : (Lit.int .i64 y) ≠ Lit.int .i64 z := by intro h; injection h with _ h; exact e h
   obtain ⟨e1, e2⟩ := h3 y hy
   refine ⟨by rw [has_put_other hne, e1]; simp [e], ?_⟩
   rw [atKey_put_other hne, e2]
   by_cases hyl : y ∈ l
   ·rw [if_pos hyl, if_pos (by simp [hyl]), List.idxOf_append, if_pos hyl]
   ·rw [if_neg hyl, if_neg (by simp [hyl, e])]
def wJ (l : List Nat) (k : Nat) : List Nat := l.take k ++ List.replicate (l.length - k) 0
theorem sD (l : List Nat) : wJ l 0 = List.replicate l.length 0 := by simp [wJ]
theorem rW (l : List Nat) : wJ l l.length = l := by simp [wJ]
theorem yV {l : List Nat} {k : Nat} (h : k ≤ l.length) : (wJ l k).length = l.length := by simp [wJ]; omega
theorem rV {l : List Nat} {k : Nat} (h : k < l.length) : (wJ l k).set k (l.getD k 0) = wJ l (k + 1) := by
 have hl : (l.take k).length = k := by simp; omega
 unfold wJ
 rw [List.set_append_right _ _ (by omega), hl, Nat.sub_self, zW (d := 0) h, show l.length - k = (l.length - (k + 1)) + 1 by omega, List.replicate_succ, List.set_cons_zero, List.append_assoc]
 rfl
def NumOk (w : World) (p : List Nat) (e : Ending) (w' : World) : Prop :=
 ∃ g, e = .returned (.slice (some ⟨g, 0, none⟩) p.length p.length) ∧ w.heap.size ≤ g ∧ Arr w' g 3 (nats p) ∧ w.grownBy w' none
theorem numb_step {l : List Int} {k : Nat} (hk : k < l.length) : (numb l).getD k 0 = if l[k] ∈ zT (l.take k) then (zT (l.take k)).idxOf l[k] else (zT (l.take k)).length := by
 rw [zI (by rw [yF]; exact hk), tC hk, ← jF hk, List.take_succ_eq_append_getElem hk, vE]
 by_cases h : l[k] ∈ zT (l.take k)
 ·rw [wS h, if_pos h]
 ·rw [xP h, if_neg h, List.idxOf_append, if_neg h]; simp
set_option maxRecDepth 100000 in
set_option maxHeartbeats 800000 in
theorem lQ (B : Nat) (w : World) (v : Value) (l : List Int) (hB : B ≤ w.heap.size) (h : Row B w v (ints l)) (hmid : ∀ x ∈ l, Mid x) (hle : l.length ≤ 4194304) :
  Calls Try.prog 79 #[v] w (NumOk w (numb l)) := by
 have hmm := @run_makeMap Try.prog
 obtain ⟨va, vc, rfl⟩ := h.shape
 rw [yJ] at h ⊢
 have H := Kh h; have HM := Kh hmid
 clear h hmid
 obtain ⟨w1, hw1⟩ : ∃ w1, w1 = w.alloc (.map #[] 0) := ⟨_, rfl⟩
 have hg1 : w.grownBy w1 none := by rw [hw1]; exact World.grownBy_alloc w _ none
 have hz1 : w1.heap.size = w.heap.size + 1 := by rw [hw1, zL]
 have HM1 : Hid (uN w1 w.heap.size 0 []) := Kh (by rw [hw1]; exact uN.made w)
 have HG1 := Kh hg1; have HW1 := Kh hw1
 clear hg1 hw1
 go_enter Try.func79, Try.ntmps79
 go_upto_region 2 with fail
 rw [← HW1.out]
 go_wp2_with (first | (at_make; refine pO rfl _ _ _ rfl xD rfl .i64 .i64 _ _ l.length rfl rfl rfl rfl ?b1 ?b2 ?_) | fail)
 case b1 => omega
 case b2 => unfold maxLen; omega
 intro w2 harr hg2 hlt2
 have HA2 := Kh harr; have HG2 := Kh hg2
 have hz2 := hg2.size
 clear harr hg2
 obtain ⟨g, hg⟩ : ∃ g, g = w.heap.size + 1 := ⟨_, rfl⟩
 rw [← hg] at HA2 ⊢
 have hgg : w.heap.size < g := by omega
 have hgl : g < w2.heap.size := by omega
 clear hg hlt2
 go_wp2
 go_loopg [5, 6, 7, 8, 15] l.length (fun gh a5 a6 a7 a8 i wr => ∃ k : Nat, gh + k = l.length ∧ i = .int .i64 k ∧ Arr wr g 3 (nats (wJ (numb l) k)) ∧ uN wr w.heap.size k (zT (l.take k)) ∧ w.grownBy wr none)
 case atStart => exact ⟨0, rfl, rfl, by rw [sD, yF, xE]; exact HA2.out, by simpa [zT] using HM1.out.kept HG2.out (by simp), zF HG1.out HG2.out⟩
 case round =>
  clear HA2 HG2
  obtain ⟨k, hg, rfl, harr, hmap, hgr⟩ := hrel
  have HG := Kh hg; have HA := Kh harr; have HMP := Kh hmap; have HGR := Kh hgr
  have hzr := hgr.size
  have hln : (numb l).length = l.length := yF l
  clear hg hmap
  by_cases hk : k < l.length
  ·have hk' : (k : Int) < l.length := by omega
   obtain ⟨ib, io, ic, e, _, _, _, hra⟩ := (H.out.kept hgr (by simp)).some_ (by rw [yJ]; omega)
   simp only [Value.slice.injEq] at e
   obtain ⟨rfl, -, -⟩ := e
   have ck := hra.int k hk
   have hmk : Mid (l.getD k 0) := by rw [zI hk]; exact HM.out _ (List.getElem_mem hk)
   have hns := numb_step hk
   rw [← zI (d := 0) hk] at hns
   have hfk : zT (l.take (k + 1)) = yR (zT (l.take k)) (l.getD k 0) := by rw [List.take_succ_eq_append_getElem hk, vE, zI hk]
   obtain ⟨x, hx⟩ : ∃ x, x = l.getD k 0 := ⟨_, rfl⟩
   rw [← hx] at ck hmk hns hfk
   have hlen := vC (l.take k)
   rw [List.length_take] at hlen
   have hlk := HMP.out.lookup hmk
   have hset := rV (l := numb l) (k := k) (by omega)
   have hfz := frozen_of_row wr g k
   have cgk := harr.nat k (by rw [yV (by omega)]; omega)
   have hfl : (nats (wJ (numb l) k)).length = l.length := by rw [zZ, yV (by omega)]; omega
   have fgk := harr.frozen k
   clear hra hx hgr harr
   by_cases hin : x ∈ zT (l.take k)
   ·rw [if_pos hin, decide_eq_true hin] at hlk
    rw [if_pos hin] at hns
    have HFK : Hid (zT (l.take (k + 1)) = zT (l.take k)) := Kh (by rw [hfk, wS hin])
    obtain ⟨c, hc⟩ : ∃ c, c = (zT (l.take k)).idxOf x := ⟨_, rfl⟩
    rw [← hc] at hlk hns
    rw [hns] at hset
    have HS := Kh hset
    clear hns hset hc hfk hin
    go_wp2
    go_roundg (l.length - (k + 1))
    case measure => have := HG.out; omega
    case rel =>
     refine ⟨k + 1, by omega, by go_num, ?_, ?_, ?_⟩
     ·rw [← HS.out]; exact HA.out.nat_set k (by rw [yV (by omega)]; omega) c
     ·rw [HFK.out]
      exact (HMP.out.kept (zD wr ⟨g, k, none⟩ _) (by simp; omega)).mono (by omega)
     ·exact zB HGR.out (zD wr ⟨g, k, none⟩ _) (fun q e => by have := Option.some.inj e; simp at this; omega)
   ·rw [if_neg hin, decide_eq_false hin] at hlk
    rw [if_neg hin] at hns
    have HFK : Hid (zT (l.take (k + 1)) = zT (l.take k) ++ [x]) := Kh (by rw [hfk, xP hin])
    have HIN := Kh hin; have HMK := Kh hmk
    rw [hns] at hset
    have HS := Kh hset
    clear hns hset hfk hin cgk fgk
    obtain ⟨L, hL⟩ : ∃ L, L = zT (l.take k) := ⟨_, rfl⟩
    rw [← hL] at HMP HFK HIN HS hlen
    have hlr := HMP.out.len
    clear hL
    go_wp2_with (first | (at_mapUpdate; refine oE rfl _ _ _ rfl w.heap.size k L x rfl rfl rfl HMP.out (by unfold maxLen; omega) HMK.out HIN.out (by omega) ?_; intro w5 hmap5 hg5; (have ha5 := HA.out.kept hg5 (by simp; omega)); (have HMP5 := Kh hmap5); (have HG5 := Kh hg5); (have HA5 := Kh ha5); (have fg5 := ha5.frozen k); (have cg5 := ha5.nat k (by rw [yV (by omega)]; omega)); clear hmap5 hg5 ha5) | fail)
    go_roundg (l.length - (k + 1))
    case measure => have := HG.out; omega
    case rel =>
     have hz5 := HG5.out.size
     refine ⟨k + 1, by omega, by go_num, ?_, ?_, ?_⟩
     ·rw [← HS.out]; exact HA5.out.nat_set k (by rw [yV (by omega)]; omega) _
     ·rw [HFK.out]
      exact HMP5.out.kept (zD w5 ⟨g, k, none⟩ _) (by simp; omega)
     ·exact zB (zB HGR.out HG5.out (fun q e => by have := Option.some.inj e; omega)) (zD w5 ⟨g, k, none⟩ _) (fun q e => by have := Option.some.inj e; simp at this; omega)
  ·have hkl : k = l.length := by have := HG.out; omega
   have HE : Hid (wJ (numb l) k = numb l) := Kh (by rw [hkl, ← hln]; exact rW _)
   clear hkl harr
   go_wp2
   go_ret
   refine ⟨g, by rw [hln]; rfl, by omega, ?_, HGR.out⟩
   rw [← HE.out]; exact HA.out
end Go.Proofs.Ytgbfaggnnfoamaa
