/- Part 8 of the proof: MapNo, Both. -/
import Derived.Test.YtgbfaggnnfoamaaZi7
import Derived.Maps.OwnSet
import Derived.Maps.OwnOps
import Derived.Deep.DeepCutAuto
import Derived.Deep.CutBlock
set_option linter.unusedVariables false
set_option linter.unusedSimpArgs false
namespace Go.Proofs.Ytgbfaggnnfoamaa
open Go.RowKit Go.Maps
theorem vV : Try.prog.underlying 120 = some (.map 3 3) := by kernel_rfl
theorem uC : Try.prog.underlying 3 = some (.int .i64) := by kernel_rfl
theorem nO (w : World) : (zeroValue 3).run Try.prog w = .ok (.int .i64 0) w := by kernel_rfl
def Mid (x : Int) : Prop := -4611686018427387904 < x ∧ x < 4611686018427387904
theorem mid_wf {x : Int} (hx : Mid x) : (Lit.int .i64 x).wf = true := by
 have h1 : IntKind.i64.min = -9223372036854775808 := rfl
 have h2 : IntKind.i64.max = 9223372036854775807 := rfl
 obtain ⟨h3, h4⟩ := hx
 simp [Lit.wf]; omega
theorem mid_key {x : Int} (hx : Mid x) : keyOf Try.prog 3 (.int .i64 x) = some (.int .i64 x) := keyOf_int_mk (q := .i64) (by kernel_rfl) (mid_wf hx)
def uO (w : World) (b n : Nat) (l : List Int) : Prop :=
 ∃ D : DataW Unit, w.ownsMap Try.prog 3 (plainElem Try.prog 3) b n D ∧ size D = l.length ∧
  ∀ x : Int, Mid x → has D (.int .i64 x) = decide (x ∈ l) ∧ D.atKey (.int .i64 x) (.lit (.int .i64 0)) = .lit (.int .i64 (if x ∈ l then ((l.idxOf x : Nat) : Int) else 0))
theorem uO.made (w : World) : uO (w.alloc (.map #[] 0)) w.heap.size 0 [] := by
 refine ⟨.map [], World.ownsMap_made _ _ _ _, rfl, fun x _ => ⟨by simp [has_eq], ?_⟩⟩
 rw [WideAt.atKey_none _ (by simp)]
 simp
theorem uO.kept {w w' : World} {b n : Nat} {l : List Int} {row : Option Nat} (h : uO w b n l) (hg : w.grownBy w' row) (hne : row ≠ some b) : uO w' b n l := by
 obtain ⟨D, h1, h2, h3⟩ := h
 exact ⟨D, h1.kept hg (fun e => hne e.symm), h2, h3⟩
theorem uO.mono {w : World} {b n n' : Nat} {l : List Int} (h : uO w b n l) (hn : n ≤ n') : uO w b n' l := by
 obtain ⟨D, h1, h2, h3⟩ := h
 exact ⟨D, h1.mono hn, h2, h3⟩
theorem uO.lt {w : World} {b n : Nat} {l : List Int} (h : uO w b n l) : b < w.heap.size := by
 obtain ⟨D, h1, _⟩ := h
 exact h1.lt
theorem uO.lookup {w : World} {b n : Nat} {l : List Int} (h : uO w b n l) {x : Int} (hx : Mid x) : (Instr.lookup 120 (.map (some b)) (.int .i64 x) true).run Try.prog w = .ok (.tuple #[.int .i64 (if x ∈ l then ((l.idxOf x : Nat) : Int) else 0), .bool (decide (x ∈ l))]) w := by
 obtain ⟨D, h1, h2, h3⟩ := h
 obtain ⟨v, ps, hrun, hv⟩ := h1.look_ok kW vV (nO w) (plainElem_int uC (by decide)) (mid_key hx)
 obtain ⟨c, rfl, hc, _⟩ := plainElem_int_inv uC hv
 obtain ⟨e1, e2⟩ := h3 x hx
 have e3 := congrArg Prod.fst hc
 simp only [e2] at e3
 rw [hrun, e1]
 have e4 : (if x ∈ l then ((l.idxOf x : Nat) : Int) else 0) = c := by
  simp only [Lit.int.injEq, DataW.lit.injEq, true_and] at e3
  exact e3
 rw [e4]
theorem uO.len {w : World} {b n : Nat} {l : List Int} (h : uO w b n l) : (Builtin.len_ #[120] 3 #[.map (some b)]).run Try.prog w = .ok (.int .i64 (l.length : Nat)) w := by
 obtain ⟨D, h1, h2, h3⟩ := h
 have hrun := h1.len vV 3
 rw [h2] at hrun
 exact hrun
theorem oJ {w : World} {ops : Array Oper} {rest : List Oper} {o : Oper} {a : Act} {Q : Exit → Act → World → Prop} (hg : o.guard = none) (m x v : Operand) (hop : o.op = Op.mapUpdate 120 m x v)
  (b n : Nat) (l : List Int) (z : Int) (hm : a.eval m = .map (some b)) (hx : a.eval x = .int .i64 z) (hv : a.eval v = .int .i64 (l.length : Nat)) (h : uO w b n l) (hn : n < maxLen) (hz : Mid z) (hnew : z ∉ l) (hll : l.length < 4611686018427387904)
  (hK : ∀ w', uO w' b (n + 1) (l ++ [z]) → w.grownBy w' (some b) → wpList Try.prog ops Q rest (a.put o.dst undef) w') :
  wpList Try.prog ops Q (o :: rest) a w := by
 obtain ⟨D, h1, h2, h3⟩ := h
 obtain ⟨w', hrun, hown, hgr⟩ := h1.update kW vV hn (mid_key hz) (plainElem_int uC (mid_wf (x := ((l.length : Nat) : Int)) ⟨by omega, by omega⟩))
 have hkz : WideAt.IsKeyLit (.int .i64 z) := by simp [WideAt.IsKeyLit]
 refine wpList_plain hg fun K' hK' => ?_
 unfold Oper.wp
 simp [execOp, hop, hm, hx, hv, hrun, Result.andThen]
 refine hK' _ _ (hK w' ⟨_, hown, ?_, fun y hy => ?_⟩ hgr)
 ·rw [size_put (h1.tidy kW), (h3 z hz).1, decide_eq_false hnew, h2]; simp
 ·by_cases e : y = z
  ·subst e
   refine ⟨by rw [has_put_same h1.isMap hkz]; simp, ?_⟩
   rw [atKey_put_same h1.isMap hkz, if_pos (by simp), List.idxOf_append, if_neg hnew]
   simp
  ·have hne : (Lit.int .i64 y) ≠ Lit.int .i64 z := by intro h; injection h with _ h; exact e h
   obtain ⟨e1, e2⟩ := h3 y hy
   refine ⟨by rw [has_put_other hne, e1]; simp [e], ?_⟩
   rw [atKey_put_other hne, e2]
   by_cases hyl : y ∈ l
   ·rw [if_pos hyl, if_pos (by simp [hyl]), List.idxOf_append, if_pos hyl]
   ·rw [if_neg hyl, if_neg (by simp [hyl, e])]
def wK (l : List Nat) (k : Nat) : List Nat := l.take k ++ List.replicate (l.length - k) 0
theorem sH (l : List Nat) : wK l 0 = List.replicate l.length 0 := by simp [wK]
theorem qC (l : List Nat) : wK l l.length = l := by simp [wK]
theorem yX {l : List Nat} {k : Nat} (h : k ≤ l.length) : (wK l k).length = l.length := by simp [wK]; omega
theorem qB {l : List Nat} {k : Nat} (h : k < l.length) : (wK l k).set k (l.getD k 0) = wK l (k + 1) := by
 have hl : (l.take k).length = k := by simp; omega
 unfold wK
 rw [List.set_append_right _ _ (by omega), hl, Nat.sub_self, zY (d := 0) h, show l.length - k = (l.length - (k + 1)) + 1 by omega, List.replicate_succ, List.set_cons_zero, List.append_assoc]
 rfl
def NumOk (w : World) (p : List Nat) (e : Ending) (w' : World) : Prop :=
 ∃ g, e = .returned (.slice (some ⟨g, 0, none⟩) p.length p.length) ∧ w.heap.size ≤ g ∧ Arr w' g 3 (nats p) ∧ w.grownBy w' none
theorem numb_step {l : List Int} {k : Nat} (hk : k < l.length) : (numb l).getD k 0 = if l[k] ∈ zV (l.take k) then (zV (l.take k)).idxOf l[k] else (zV (l.take k)).length := by
 rw [zI (by rw [yF]; exact hk), tE hk, ← jQ hk, List.take_succ_eq_append_getElem hk, vH]
 by_cases h : l[k] ∈ zV (l.take k)
 ·rw [wU h, if_pos h]
 ·rw [xR h, if_neg h, List.idxOf_append, if_neg h]; simp
set_option maxRecDepth 100000 in
set_option maxHeartbeats 800000 in
theorem lX (B : Nat) (w : World) (v : Value) (l : List Int) (hB : B ≤ w.heap.size) (h : Row B w v (ints l)) (hmid : ∀ x ∈ l, Mid x) (hle : l.length ≤ 4194304) :
  Calls Try.prog 79 #[v] w (NumOk w (numb l)) := by
 have hmm := @run_makeMap Try.prog
 obtain ⟨va, vc, rfl⟩ := h.shape
 rw [yJ] at h ⊢
 have H := Kh h; have HM := Kh hmid
 clear h hmid
 obtain ⟨w1, hw1⟩ : ∃ w1, w1 = w.alloc (.map #[] 0) := ⟨_, rfl⟩
 have hg1 : w.grownBy w1 none := by rw [hw1]; exact World.grownBy_alloc w _ none
 have hz1 : w1.heap.size = w.heap.size + 1 := by rw [hw1, zL]
 have HM1 : Hid (uO w1 w.heap.size 0 []) := Kh (by rw [hw1]; exact uO.made w)
 have HG1 := Kh hg1; have HW1 := Kh hw1
 clear hg1 hw1
 go_enter Try.func79, Try.ntmps79
 go_upto_region 2 with fail
 rw [← HW1.out]
 go_wp2_with (first | (at_make; refine pV rfl _ _ _ rfl xI rfl .i64 .i64 _ _ l.length rfl rfl rfl rfl ?b1 ?b2 ?_) | fail)
 case b1 => omega
 case b2 => unfold maxLen; omega
 intro w2 harr hg2 hlt2
 have HA2 := Kh harr; have HG2 := Kh hg2
 have hz2 := hg2.size
 clear harr hg2
 obtain ⟨g, hg⟩ : ∃ g, g = w.heap.size + 1 := ⟨_, rfl⟩
 rw [← hg] at HA2 ⊢
 have hgg : w.heap.size < g := by omega
 have hgl : g < w2.heap.size := by omega
 clear hg hlt2
 go_wp2
 go_loopg [5, 6, 7, 8, 15] l.length (fun gh a5 a6 a7 a8 i wr => ∃ k : Nat, gh + k = l.length ∧ i = .int .i64 k ∧ Arr wr g 3 (nats (wK (numb l) k)) ∧ uO wr w.heap.size k (zV (l.take k)) ∧ w.grownBy wr none)
 case atStart => exact ⟨0, rfl, rfl, by rw [sH, yF, xJ]; exact HA2.out, by simpa [zV] using HM1.out.kept HG2.out (by simp), zE HG1.out HG2.out⟩
 case round =>
  clear HA2 HG2
  obtain ⟨k, hg, rfl, harr, hmap, hgr⟩ := hrel
  have HG := Kh hg; have HA := Kh harr; have HMP := Kh hmap; have HGR := Kh hgr
  have hzr := hgr.size
  have hln : (numb l).length = l.length := yF l
  clear hg hmap
  by_cases hk : k < l.length
  ·have hk' : (k : Int) < l.length := by omega
   obtain ⟨ib, io, ic, e, _, _, _, hra⟩ := (H.out.kept hgr (by simp)).some_ (by rw [yJ]; omega)
   simp only [Value.slice.injEq] at e
   obtain ⟨rfl, -, -⟩ := e
   have ck := hra.int k hk
   have hmk : Mid (l.getD k 0) := by rw [zI hk]; exact HM.out _ (List.getElem_mem hk)
   have hns := numb_step hk
   rw [← zI (d := 0) hk] at hns
   have hfk : zV (l.take (k + 1)) = yS (zV (l.take k)) (l.getD k 0) := by rw [List.take_succ_eq_append_getElem hk, vH, zI hk]
   obtain ⟨x, hx⟩ : ∃ x, x = l.getD k 0 := ⟨_, rfl⟩
   rw [← hx] at ck hmk hns hfk
   have hlen := vE (l.take k)
   rw [List.length_take] at hlen
   have hlk := HMP.out.lookup hmk
   have hset := qB (l := numb l) (k := k) (by omega)
   have hfz := frozen_of_row wr g k
   have cgk := harr.nat k (by rw [yX (by omega)]; omega)
   have hfl : (nats (wK (numb l) k)).length = l.length := by rw [zZ, yX (by omega)]; omega
   have fgk := harr.frozen k
   clear hra hx hgr harr
   by_cases hin : x ∈ zV (l.take k)
   ·rw [if_pos hin, decide_eq_true hin] at hlk
    rw [if_pos hin] at hns
    have HFK : Hid (zV (l.take (k + 1)) = zV (l.take k)) := Kh (by rw [hfk, wU hin])
    obtain ⟨c, hc⟩ : ∃ c, c = (zV (l.take k)).idxOf x := ⟨_, rfl⟩
    rw [← hc] at hlk hns
    rw [hns] at hset
    have HS := Kh hset
    clear hns hset hc hfk hin
    go_wp2
    go_roundg (l.length - (k + 1))
    case measure => have := HG.out; omega
    case rel =>
     refine ⟨k + 1, by omega, by go_num, ?_, ?_, ?_⟩
     ·rw [← HS.out]; exact HA.out.nat_set k (by rw [yX (by omega)]; omega) c
     ·rw [HFK.out]
      exact (HMP.out.kept (zC wr ⟨g, k, none⟩ _) (by simp; omega)).mono (by omega)
     ·exact zB HGR.out (zC wr ⟨g, k, none⟩ _) (fun q e => by have := Option.some.inj e; simp at this; omega)
   ·rw [if_neg hin, decide_eq_false hin] at hlk
    rw [if_neg hin] at hns
    have HFK : Hid (zV (l.take (k + 1)) = zV (l.take k) ++ [x]) := Kh (by rw [hfk, xR hin])
    have HIN := Kh hin; have HMK := Kh hmk
    rw [hns] at hset
    have HS := Kh hset
    clear hns hset hfk hin cgk fgk
    obtain ⟨L, hL⟩ : ∃ L, L = zV (l.take k) := ⟨_, rfl⟩
    rw [← hL] at HMP HFK HIN HS hlen
    have hlr := HMP.out.len
    clear hL
    go_wp2_with (first | (at_mapUpdate; refine oJ rfl _ _ _ rfl w.heap.size k L x rfl rfl rfl HMP.out (by unfold maxLen; omega) HMK.out HIN.out (by omega) ?_; intro w5 hmap5 hg5; (have ha5 := HA.out.kept hg5 (by simp; omega)); (have HMP5 := Kh hmap5); (have HG5 := Kh hg5); (have HA5 := Kh ha5); (have fg5 := ha5.frozen k); (have cg5 := ha5.nat k (by rw [yX (by omega)]; omega)); clear hmap5 hg5 ha5) | fail)
    go_roundg (l.length - (k + 1))
    case measure => have := HG.out; omega
    case rel =>
     have hz5 := HG5.out.size
     refine ⟨k + 1, by omega, by go_num, ?_, ?_, ?_⟩
     ·rw [← HS.out]; exact HA5.out.nat_set k (by rw [yX (by omega)]; omega) _
     ·rw [HFK.out]
      exact HMP5.out.kept (zC w5 ⟨g, k, none⟩ _) (by simp; omega)
     ·exact zB (zB HGR.out HG5.out (fun q e => by have := Option.some.inj e; omega)) (zC w5 ⟨g, k, none⟩ _) (fun q e => by have := Option.some.inj e; simp at this; omega)
  ·have hkl : k = l.length := by have := HG.out; omega
   have HE : Hid (wK (numb l) k = numb l) := Kh (by rw [hkl, ← hln]; exact qC _)
   clear hkl harr
   go_wp2
   go_ret
   refine ⟨g, by rw [hln]; rfl, by omega, ?_, HGR.out⟩
   rw [← HE.out]; exact HA.out
end Go.Proofs.Ytgbfaggnnfoamaa
namespace Go.Proofs.Ytgbfaggnnfoamaa
open Go.RowKit
def mX (p q : List Nat) : List Nat := List.zipWith (fun a b => a * (p.length + 1) + b) p q
theorem rO {p q : List Nat} (h : q.length = p.length) : (mX p q).length = p.length := by simp [mX, h]
theorem bothN_ints {p q : List Nat} : nats (mX p q) = ints (qJ p q) := by
 rw [tF]
 congr 1
 simp only [mX, qJ, List.map_zipWith]
 congr 1
theorem bothN_get {p q : List Nat} (h : q.length = p.length) {k : Nat} (hk : k < p.length) : (mX p q).getD k 0 = p.getD k 0 * (p.length + 1) + q.getD k 0 := by
 rw [zI (by rw [rO h]; exact hk), zI hk, zI (by omega)]
 simp [mX]
theorem bothL_mid {p q : List Nat} (hp : ∀ c ∈ p, c < 4194305) (hq : ∀ c ∈ q, c < 4194305) (hl : p.length ≤ 4194304) : ∀ x ∈ qJ p q, Mid x := by
 intro x hx
 obtain ⟨i, hi, rfl⟩ := List.getElem_of_mem hx
 simp only [qJ, List.getElem_zipWith, jN]
 have h1 := hp _ (List.getElem_mem (l := p) (n := i) (by simp [qJ] at hi; omega))
 have h2 := hq _ (List.getElem_mem (l := q) (n := i) (by simp [qJ] at hi; omega))
 generalize p[i]'(by simp [qJ] at hi; omega) = a at h1 ⊢
 generalize q[i]'(by simp [qJ] at hi; omega) = b at h2 ⊢
 have : a * (p.length + 1) ≤ 4194304 * 4194305 := Nat.mul_le_mul (by omega) (by omega)
 have e : (a : Int) * ((p.length : Int) + 1) + b = ((a * (p.length + 1) + b : Nat) : Int) := by push_cast; rfl
 rw [e]
 constructor <;> omega
theorem wrap_both {a m X b : Nat} (hX : X = a * (m + 1)) (hXl : X ≤ 17592190238720) (hb : b < 4194305) : wrap64 (wrap64 ((a : Int) * ((m : Int) + 1)) + (b : Int)) = ((X + b : Nat) : Int) := by
 have hXc : (a : Int) * ((m : Int) + 1) = (X : Int) := by rw [hX]; push_cast; rfl
 clear hX
 rw [hXc]
 have h9 : wrap64 (X : Int) = (X : Int) := IntWalk.wrap64_in _ (by omega)
 rw [h9, ← Int.natCast_add]
 exact IntWalk.wrap64_in _ (by omega)
set_option maxRecDepth 100000 in
set_option maxHeartbeats 800000 in
theorem both_any (B C : Nat) (w : World) (va vb : Value) (p q : List Nat) (hB : B ≤ w.heap.size) (hC : C ≤ w.heap.size) (ha : Row B w va (nats p)) (hb : Row C w vb (nats q)) (hl : q.length = p.length) (h0 : 0 < p.length) (hp : ∀ c ∈ p, c < 4194305) (hq : ∀ c ∈ q, c < 4194305) (hle : p.length ≤ 4194304) :
  Calls Try.prog 80 #[va, vb] w (NumOk w (kY p q)) := by
 obtain ⟨pb, po, pc, rfl, hpB, hpc1, hpc2, hra⟩ := ha.some_ (by rw [zZ]; exact h0)
 obtain ⟨qb, qo, qc, rfl, hqC, hqc1, hqc2, hrb⟩ := hb.some_ (by rw [zZ]; omega)
 rw [zZ] at hpc1 hqc1 ⊢
 rw [zZ, hl]
 rw [hl] at hqc1
 have hmx1 : pc ≤ 9223372036854775807 := by unfold maxLen at hpc2; omega
 have hmx2 : qc ≤ 9223372036854775807 := by unfold maxLen at hqc2; omega
 have RA := Kh hra; have RB := Kh hrb; have HL := Kh hl; have HP := Kh hp; have HQ := Kh hq
 have HMID := Kh (bothL_mid hp hq hle)
 clear hra hrb hl hp hq ha hb
 go_enter Try.func80, Try.ntmps80
 go_wp2_with (first | (at_make; refine pV rfl _ _ _ rfl xI rfl .i64 .i64 _ _ p.length rfl rfl rfl rfl ?b1 ?b2 ?_) | fail)
 case b1 => omega
 case b2 => unfold maxLen; omega
 intro w2 harr hg2 hlt2
 have HA2 := Kh harr; have HG2 := Kh hg2
 clear harr hg2
 obtain ⟨g, hg⟩ : ∃ g, g = w.heap.size := ⟨_, rfl⟩
 have HGE := Kh hg
 rw [← hg] at HA2 hlt2 hB hC ⊢
 clear hg
 go_wp2
 go_loopg [6, 12] p.length (fun gh a6 i wr => ∃ k : Nat, gh + k = p.length ∧ i = .int .i64 k ∧ Arr wr g 3 (nats (wK (mX p q) k)) ∧ w.grownBy wr none)
 case atStart => exact ⟨0, rfl, rfl, by rw [sH, rO HL.out, xJ]; exact HA2.out, HG2.out⟩
 case round =>
  clear HA2 HG2
  obtain ⟨k, hg, rfl, harr, hgr⟩ := hrel
  have HG := Kh hg; have HA := Kh harr; have HGR := Kh hgr
  have hln : (mX p q).length = p.length := rO HL.out
  clear hg
  by_cases hk : k < p.length
  ·have hk' : (k : Int) < p.length := by omega
   have ca := (RA.out.kept hgr (by simp)).nat k hk
   have cb := (RB.out.kept hgr (by simp)).nat k (by rw [HL.out]; exact hk)
   have hset := qB (l := mX p q) (k := k) (by omega)
   rw [bothN_get HL.out hk] at hset
   have hpk := uQ (i := k) HP.out (by omega)
   have hqk := uQ (i := k) HQ.out (by omega)
   have cgk := harr.nat k (by rw [yX (by omega)]; omega)
   have fgk := harr.frozen k
   obtain ⟨a, ha⟩ : ∃ a, a = p.getD k 0 := ⟨_, rfl⟩
   obtain ⟨b, hb⟩ : ∃ b, b = q.getD k 0 := ⟨_, rfl⟩
   rw [← ha] at ca hset hpk
   rw [← hb] at cb hset hqk
   obtain ⟨X, hX⟩ : ∃ X, X = a * (p.length + 1) := ⟨_, rfl⟩
   have hXl : X ≤ 17592190238720 := by
    have h8 : a * (p.length + 1) ≤ 4194304 * 4194305 := Nat.mul_le_mul (by omega) (by omega)
    omega
   rw [← hX] at hset
   have hw := wrap_both hX hXl hqk
   have HW := Kh hw
   have HS := Kh hset
   have ca' : wr.drew.cell? ⟨pb, po + k, none⟩ = some (.int .i64 (a : Int)) := ca
   have cb' : wr.drew.cell? ⟨qb, qo + k, none⟩ = some (.int .i64 (b : Int)) := cb
   have hpg : pb ≠ g := by omega
   have hqg : qb ≠ g := by omega
   have HS1 : Hid (∀ u, ((wr.setCell ⟨g, k, none⟩ u).drew.cell? ⟨pb, po + k, none⟩ = some (.int .i64 (a : Int)))) := Kh (fun u => by
    show (wr.setCell ⟨g, k, none⟩ u).cell? ⟨pb, po + k, none⟩ = _
    rw [World.cell?_of_block ((zC wr ⟨g, k, none⟩ u).block pb (by have := hgr.size; have := HGE.out; omega) (by simp; omega))]; exact ca)
   have HS2 : Hid (∀ u, ((wr.setCell ⟨g, k, none⟩ u).drew.cell? ⟨qb, qo + k, none⟩ = some (.int .i64 (b : Int)))) := Kh (fun u => by
    show (wr.setCell ⟨g, k, none⟩ u).cell? ⟨qb, qo + k, none⟩ = _
    rw [World.cell?_of_block ((zC wr ⟨g, k, none⟩ u).block qb (by have := hgr.size; have := HGE.out; omega) (by simp; omega))]; exact cb)
   clear ha hb hset hgr harr hX hw
   go_upto_region 5 with fail
   go_region_held3 (fun w' => w'.cell? ⟨pb, po + k, none⟩ = some (.int .i64 (a : Int)) ∧ w'.cell? ⟨qb, qo + k, none⟩ = some (.int .i64 (b : Int))) (first | exact ⟨ca', cb'⟩ | exact ⟨HS1.out _, HS2.out _⟩ | go_keep | fail) (fail)
   all_goals
    clear ca ca' cb cb' HS1 HS2 cgk fgk
    go_wp2
    go_roundg (p.length - (k + 1))
    case measure => have := HG.out; omega
    case rel =>
     refine ⟨k + 1, by omega, by go_num, ?_, ?_⟩
     ·rw [← HS.out]
      have h1 := HA.out.nat_set k (by rw [yX (by omega)]; omega) (X + b)
      rw [HW.out]
      exact h1.of_heap rfl
     ·exact yZ (zB HGR.out (zC wr ⟨g, k, none⟩ _) (fun q e => by have h7 : g = q := Option.some.inj e; have := HGE.out; omega)) rfl rfl rfl rfl
  ·have hkl : k = p.length := by have := HG.out; omega
   have HE : Hid (wK (mX p q) k = mX p q) := Kh (by rw [hkl, ← hln]; exact qC _)
   clear hkl harr
   go_wp2_with fail
   rw [HE.out] at HA
   have HN := Kh (lX (g + 1) wr (.slice (some ⟨g, 0, none⟩) p.length p.length) (qJ p q) HA.out.lt (by
    rw [← bothN_ints]
    exact .inr ⟨g, 0, p.length, by rw [zZ, hln], by omega, by rw [zZ, hln]; exact Nat.le_refl _, by unfold maxLen; omega, HA.out.row⟩) HMID.out (by rw [tJ HL.out]; exact hle))
   go_wp2_with fail
   refine HN.out.mono ?_
   rintro e w5 ⟨g5, rfl, hg5, ha5, hgr5⟩
   have hb8 : numb (qJ p q) = kY p q := rfl
   have HA5 := Kh ha5; have HG5 := Kh hgr5
   clear ha5 hgr5
   go_wp2
   go_ret
   refine ⟨g5, rfl, ?_, HA5.out, zE HGR.out HG5.out⟩
   have := HGR.out.size
   omega
end Go.Proofs.Ytgbfaggnnfoamaa
