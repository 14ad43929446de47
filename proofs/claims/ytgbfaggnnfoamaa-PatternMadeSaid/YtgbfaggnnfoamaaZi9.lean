/- Part 9 of the proof: Same3, DfaAt. -/
import Derived.Test.YtgbfaggnnfoamaaZi8
set_option linter.unusedVariables false
set_option linter.unusedSimpArgs false
namespace Go.Proofs.Ytgbfaggnnfoamaa
open Go.RowKit
theorem qM {xs : List Int} {k : Nat} (h : k < xs.length) : xs.take (k + 1) = xs.take k ++ [xs.getD k 0] := by
 rw [List.take_add_one]; simp [List.getD, h]
set_option maxHeartbeats 400000 in
theorem same03_any (B C : Nat) (w : World) (va vb : Value) (xs ys : List Int) (ha : Row B w va (ints xs)) (hb : Row C w vb (ints ys)) :
  Calls Try.prog 81 #[va, vb] w fun e w' => e = .returned (.bool (decide (xs = ys))) ∧ ∃ m, w' = w.drewN m := by
 have hxl := ha.len_le
 rw [yJ] at hxl
 unfold maxLen at hxl
 have hyl := hb.len_le
 rw [yJ] at hyl
 unfold maxLen at hyl
 obtain ⟨aa, ac, rfl⟩ := ha.shape
 obtain ⟨ba, bc, rfl⟩ := hb.shape
 rw [yJ] at ha hb ⊢
 rw [yJ]
 by_cases hl : xs.length = ys.length
 ·by_cases h0 : xs.length = 0
  ·have hx : xs = [] := List.eq_nil_of_length_eq_zero h0
   have hy : ys = [] := List.eq_nil_of_length_eq_zero (by omega)
   subst hx; subst hy
   clear ha hb
   go_enter Try.func81, Try.ntmps81
   go_wp2
   go_loopg [13] 0 (fun g i wr => i = .int .i64 0 ∧ wr = w)
   case atStart => exact ⟨rfl, rfl⟩
   case round =>
    obtain ⟨rfl, rfl⟩ := hrel
    go_wp2
    go_ret
    exact ⟨zW rfl, 0, rfl⟩
  ·obtain ⟨ab, ao, ac', e, _, _, _, hra⟩ := ha.some_ (by rw [yJ]; omega)
   simp only [Value.slice.injEq] at e
   obtain ⟨rfl, -, -⟩ := e
   obtain ⟨bb, bo, bc', e, _, _, _, hrb⟩ := hb.some_ (by rw [yJ]; omega)
   simp only [Value.slice.injEq] at e
   obtain ⟨rfl, -, -⟩ := e
   have RA := Kh hra; have RB := Kh hrb; have HL := Kh hl
   clear ha hb hra hrb
   rw [← hl]
   clear hl
   go_enter Try.func81, Try.ntmps81
   go_wp2
   go_loopg [13] xs.length (fun g i wr => ∃ k : Nat, g + k = xs.length ∧ i = .int .i64 k ∧ xs.take k = ys.take k ∧ ∃ m, wr = w.drewN m)
   case atStart => exact ⟨0, rfl, rfl, rfl, 0, rfl⟩
   case round =>
    obtain ⟨k, hg, rfl, hok, m, rfl⟩ := hrel
    have HG := Kh hg; have OK := Kh hok; clear hg hok
    by_cases hk : k < xs.length
    ·have hk' : (k : Int) < xs.length := by omega
     have ca := RA.out.int k hk
     have cb := RB.out.int k (by have := HL.out; omega)
     obtain ⟨z, hz⟩ : ∃ z, z = xs.getD k 0 := ⟨_, rfl⟩
     obtain ⟨u, hu⟩ : ∃ u, u = ys.getD k 0 := ⟨_, rfl⟩
     rw [← hz] at ca
     rw [← hu] at cb
     have HZ := Kh hz; have HU := Kh hu; clear hz hu
     by_cases hzu : z = u
     ·have HN : Hid (xs.take (k + 1) = ys.take (k + 1)) := Kh (by rw [qM hk, qM (by have := HL.out; omega), OK.out, ← HZ.out, ← HU.out, hzu])
      subst hzu
      go_wp2
      go_quiet (fail)
      go_wp2
      go_roundg (xs.length - (k + 1))
      case measure => have := HG.out; omega
      case rel => exact ⟨k + 1, by omega, by go_num, HN.out, _, rfl⟩
     ·have e1 : (z != u) = true := by rw [bne_iff_ne]; exact hzu
      have HN : Hid (decide (xs = ys) = false) := Kh (by rw [decide_eq_false_iff_not]; rintro rfl; exact hzu (by rw [HZ.out, HU.out]))
      go_wp2
      go_quiet (fail)
      go_wp2
      go_ret
      exact ⟨zW HN.out.symm, _, by rw [World.drewN_drewN]⟩
    ·have HY : Hid (decide (xs = ys) = true) := by
      have hkz : k = xs.length := by have := HG.out; omega
      have := OK.out
      rw [List.take_of_length_le (by omega), List.take_of_length_le (by have := HL.out; omega)] at this
      exact Kh (by rw [decide_eq_true_eq]; exact this)
     go_wp2
     go_ret
     exact ⟨zW HY.out.symm, m, rfl⟩
 ·have e1 : ((xs.length : Int) != (ys.length : Int)) = true := by rw [bne_iff_ne]; omega
  have HN : Hid (decide (xs = ys) = false) := Kh (by rw [decide_eq_false_iff_not]; rintro rfl; exact hl rfl)
  clear ha hb
  go_enter Try.func81, Try.ntmps81
  go_wp2
  go_ret
  exact ⟨zW HN.out.symm, 0, rfl⟩
theorem cast_inj {l m : List Nat} : ((l.map fun (x : Nat) => (x : Int)) == (m.map fun (x : Nat) => (x : Int))) = decide (l = m) := by
 rw [Bool.eq_iff_iff, beq_iff_eq, decide_eq_true_eq]
 constructor
 ·intro h
  have := congrArg (List.map Int.toNat) h
  simpa [List.map_map, Function.comp_def] using this
 ·rintro rfl; rfl
theorem cast_dec {l m : List Nat} : decide ((l.map fun (x : Nat) => (x : Int)) = m.map fun (x : Nat) => (x : Int)) = decide (l = m) := by
 rw [← cast_inj (l := l) (m := m), Bool.eq_iff_iff, decide_eq_true_eq, beq_iff_eq]
structure DAt (B : Nat) (w : World) (d : DfaV) (n k fb fo fc b off cap : Nat) (RB RO RC : Nat → Nat) : Prop where
 ok : VD d n k
 flt : fb < B
 frow : wE w fb fo (bls d.final)
 fcap : n ≤ fc ∧ fc ≤ maxLen
 blt : b < B
 bltw : b < w.heap.size
 cap : n ≤ cap ∧ cap ≤ maxLen
 hd : ∀ q, q < n → w.cell? ⟨b, off + q, none⟩ = some (.slice (some ⟨RB q, RO q, none⟩) k (RC q))
 el : ∀ q a, q < n → a < k → w.cell? ⟨RB q, RO q + a, none⟩ = some (.int .i64 ((nx d q a : Nat) : Int))
 rlt : ∀ q, q < n → RB q < B ∧ RB q < w.heap.size
 rcap : ∀ q, q < n → k ≤ RC q ∧ RC q ≤ maxLen
theorem DAt.kept {B : Nat} {w w' : World} {d : DfaV} {n k fb fo fc b off cap : Nat} {RB RO RC : Nat → Nat} {row : Option Nat} (h : DAt B w d n k fb fo fc b off cap RB RO RC) (hg : w.grownBy w' row) (hr : ∀ k, row = some k → B ≤ k) : DAt B w' d n k fb fo fc b off cap RB RO RC where
 ok := h.ok
 flt := h.flt
 frow := h.frow.kept hg (fun e => by have := hr _ e; have := h.flt; omega)
 fcap := h.fcap
 blt := h.blt
 bltw := Nat.lt_of_lt_of_le h.bltw hg.size
 cap := h.cap
 hd := fun q hq => (World.cell?_of_block (hg.block b h.bltw (fun e => by have := hr b e.symm; have := h.blt; omega))).trans (h.hd q hq)
 el := fun q a hq ha => (World.cell?_of_block (hg.block (RB q) (h.rlt q hq).2 (fun e => by have := hr _ e.symm; have := (h.rlt q hq).1; omega))).trans (h.el q a hq ha)
 rlt := fun q hq => ⟨(h.rlt q hq).1, Nat.lt_of_lt_of_le (h.rlt q hq).2 hg.size⟩
 rcap := h.rcap
theorem DAt.fin {B : Nat} {w : World} {d : DfaV} {n k fb fo fc b off cap : Nat} {RB RO RC : Nat → Nat} (h : DAt B w d n k fb fo fc b off cap RB RO RC) {q : Nat} (hq : q < n) : w.cell? ⟨fb, fo + q, none⟩ = some (.bool (d.final.getD q false)) := by
 have hl := h.ok.hn
 have := wE.map h.frow q (by omega)
 rw [this, zI (by omega)]
def dAgg (k st fb fo fc b off cap n : Nat) : Value := .agg #[.int .i64 (k : Int), .int .i64 (st : Int), .slice (some ⟨fb, fo, none⟩) n fc, .slice (some ⟨b, off, none⟩) n cap]
theorem vR.at {B : Nat} {w : World} {v : Value} {d : DfaV} {n k : Nat} (h : vR B w v d) (hd : VD d n k) :
  ∃ fb fo fc b off cap RB RO RC, v = dAgg k (st0 d) fb fo fc b off cap n ∧ DAt B w d n k fb fo fc b off cap RB RO RC := by
 obtain ⟨fv, nv, rfl, hf, hn⟩ := h
 obtain ⟨fb, fo, fc, rfl, h1, h2, h3, h4⟩ := hf.some_ (by rw [xQ, hd.hn]; exact hd.n1)
 obtain ⟨b, off, cap, A, C, rfl, k1, k2, k3⟩ := hn.some_ (by rw [hd.nl]; exact hd.n1)
 have hr : ∀ q, ∃ rb ro, q < n → A q = some ⟨rb, ro, none⟩ ∧ rb < B ∧ k ≤ C q ∧ C q ≤ maxLen ∧ wE w rb ro (ints (d.next.getD q [])) := by
  intro q
  by_cases hq : q < n
  ·have hl := hd.row q hq
   obtain ⟨rb, ro, c, e, h4, h5, h6, h7⟩ := (k3.row q (by rw [hd.nl]; exact hq)).some_ (by rw [yJ, hl]; exact hd.k1)
   simp only [Value.slice.injEq] at e
   rw [yJ, hl] at h5
   exact ⟨rb, ro, fun _ => ⟨e.1, h4, by rw [e.2.2]; exact h5, by rw [e.2.2]; exact h6, h7⟩⟩
  ·exact ⟨0, 0, fun h => absurd h hq⟩
 obtain ⟨RB, hRB⟩ := Classical.axiomOfChoice hr
 obtain ⟨RO, hRO⟩ := Classical.axiomOfChoice hRB
 rw [xQ, hd.hn] at h2
 rw [hd.nl] at k1
 refine ⟨fb, fo, fc, b, off, cap, RB, RO, C, ?_, hd, h1, h4, ⟨h2, h3⟩, k3.lt, k3.ltw, ⟨k1, k2⟩, fun q hq => ?_, fun q a hq ha => ?_, fun q hq => ?_, fun q hq => ?_⟩
 ·rw [dAgg, kI hd, hd.hk, xQ, hd.hn, hd.nl]
 ·rw [k3.hd q (by rw [hd.nl]; exact hq), (hRO q hq).1, hd.row q hq]
 ·rw [(hRO q hq).2.2.2.2.int a (by rw [hd.row q hq]; exact ha), nx_cast hd hq ha]
  rfl
 ·have := hRO q hq
  exact ⟨this.2.1, this.2.2.2.2.1⟩
 ·have := hRO q hq
  exact ⟨this.2.2.1, this.2.2.2.1⟩
theorem zG {w : World} {p : Nat} {x0 x1 x2 x3 : Value} {e : Nat} (h : w.heap[p]? = some (.cells #[x0, x1, x2, x3] e (0, 0))) :
  w.cell? ⟨p, 0, none⟩ = some x0 ∧ w.cell? ⟨p, 1, none⟩ = some x1 ∧ w.cell? ⟨p, 2, none⟩ = some x2 ∧ w.cell? ⟨p, 3, none⟩ = some x3 := by
 have c0 := zK h 0 (by simp)
 have c1 := zK h 1 (by simp)
 have c2 := zK h 2 (by simp)
 have c3 := zK h 3 (by simp)
 simp only [List.getElem_toArray, List.getElem_cons_zero, List.getElem_cons_succ] at c0 c1 c2 c3
 exact ⟨c0, c1, c2, c3⟩
theorem pK {w : World} {g n : Nat} {l : List Nat} (h : wE w g 0 (nats l)) (hl : l.length = n) (hn : n ≤ 9223372036854775807) : Row (g + 1) w (.slice (some ⟨g, 0, none⟩) n n) (nats l) :=
 .inr ⟨g, 0, n, by rw [zZ, hl], by omega, by rw [zZ, hl]; exact Nat.le_refl _, by unfold maxLen; omega, h⟩
theorem colTo_take {d : DfaV} {p : List Nat} {a q : Nat} (hq : q < p.length) : (rL d p a).take (q + 1) = (rL d p a).take q ++ [p.getD (nx d q a) 0] := by
 rw [zY (d := 0) (by rw [uE]; exact hq), mT hq]
theorem colTo_lt {d : DfaV} {p : List Nat} {n a : Nat} (h : ∀ c ∈ p, c < n) (hn : 0 < n) : ∀ c ∈ rL d p a, c < n := by
 intro c hc
 obtain ⟨q, hq, rfl⟩ := List.mem_map.1 hc
 exact uQ h hn
end Go.Proofs.Ytgbfaggnnfoamaa
