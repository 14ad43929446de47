/- Part 9 of the proof: Both, Same3, DfaAt. -/
import Derived.Test.YtgbfaggnnfoamaaZh8
set_option linter.unusedVariables false
set_option linter.unusedSimpArgs false
namespace Go.Proofs.Ytgbfaggnnfoamaa
open Go.RowKit
def mP (p q : List Nat) : List Nat := List.zipWith (fun a b => a * (p.length + 1) + b) p q
theorem rJ {p q : List Nat} (h : q.length = p.length) : (mP p q).length = p.length := by simp [mP, h]
theorem bothN_ints {p q : List Nat} : nats (mP p q) = ints (qB p q) := by
 rw [tD]
 congr 1
 simp only [mP, qB, List.map_zipWith]
 congr 1
theorem bothN_get {p q : List Nat} (h : q.length = p.length) {k : Nat} (hk : k < p.length) : (mP p q).getD k 0 = p.getD k 0 * (p.length + 1) + q.getD k 0 := by
 rw [zI (by rw [rJ h]; exact hk), zI hk, zI (by omega)]
 simp [mP]
theorem bothL_mid {p q : List Nat} (hp : ∀ c ∈ p, c < 4194305) (hq : ∀ c ∈ q, c < 4194305) (hl : p.length ≤ 4194304) : ∀ x ∈ qB p q, Mid x := by
 intro x hx
 obtain ⟨i, hi, rfl⟩ := List.getElem_of_mem hx
 simp only [qB, List.getElem_zipWith, jC]
 have h1 := hp _ (List.getElem_mem (l := p) (n := i) (by simp [qB] at hi; omega))
 have h2 := hq _ (List.getElem_mem (l := q) (n := i) (by simp [qB] at hi; omega))
 generalize p[i]'(by simp [qB] at hi; omega) = a at h1 ⊢
 generalize q[i]'(by simp [qB] at hi; omega) = b at h2 ⊢
 have : a * (p.length + 1) ≤ 4194304 * 4194305 := Nat.mul_le_mul (by omega) (by omega)
 have e : (a : Int) * ((p.length : Int) + 1) + b = ((a * (p.length + 1) + b : Nat) : Int) := by push_cast; rfl
 rw [e]
 constructor <;> omega
theorem wrap_both {a m X b : Nat} (hX : X = a * (m + 1)) (hXl : X ≤ 17592190238720) (hb : b < 4194305) : wrap64 (wrap64 ((a : Int) * ((m : Int) + 1)) + (b : Int)) = ((X + b : Nat) : Int) := by
 have hXc : (a : Int) * ((m : Int) + 1) = (X : Int) := by rw [hX]; push_cast; rfl
 clear hX
 rw [hXc]
 have h9 : wrap64 (X : Int) = (X : Int) := IntWalk.wrap64_in _ (by omega)
 rw [h9, ← Int.natCast_add]
 exact IntWalk.wrap64_in _ (by omega)
set_option maxRecDepth 100000 in
set_option maxHeartbeats 800000 in
theorem both_any (B C : Nat) (w : World) (va vb : Value) (p q : List Nat) (hB : B ≤ w.heap.size) (hC : C ≤ w.heap.size) (ha : Row B w va (nats p)) (hb : Row C w vb (nats q)) (hl : q.length = p.length) (h0 : 0 < p.length) (hp : ∀ c ∈ p, c < 4194305) (hq : ∀ c ∈ q, c < 4194305) (hle : p.length ≤ 4194304) :
  Calls Try.prog 80 #[va, vb] w (NumOk w (kP p q)) := by
 obtain ⟨pb, po, pc, rfl, hpB, hpc1, hpc2, hra⟩ := ha.some_ (by rw [zZ]; exact h0)
 obtain ⟨qb, qo, qc, rfl, hqC, hqc1, hqc2, hrb⟩ := hb.some_ (by rw [zZ]; omega)
 rw [zZ] at hpc1 hqc1 ⊢
 rw [zZ, hl]
 rw [hl] at hqc1
 have hmx1 : pc ≤ 9223372036854775807 := by unfold maxLen at hpc2; omega
 have hmx2 : qc ≤ 9223372036854775807 := by unfold maxLen at hqc2; omega
 have RA := Kh hra; have RB := Kh hrb; have HL := Kh hl; have HP := Kh hp; have HQ := Kh hq
 have HMID := Kh (bothL_mid hp hq hle)
 clear hra hrb hl hp hq ha hb
 go_enter Try.func80, Try.ntmps80
 go_wp2_with (first | (at_make; refine pO rfl _ _ _ rfl xD rfl .i64 .i64 _ _ p.length rfl rfl rfl rfl ?b1 ?b2 ?_) | fail)
 case b1 => omega
 case b2 => unfold maxLen; omega
 intro w2 harr hg2 hlt2
 have HA2 := Kh harr; have HG2 := Kh hg2
 clear harr hg2
 obtain ⟨g, hg⟩ : ∃ g, g = w.heap.size := ⟨_, rfl⟩
 have HGE := Kh hg
 rw [← hg] at HA2 hlt2 hB hC ⊢
 clear hg
 go_wp2
 go_loopg [6, 12] p.length (fun gh a6 i wr => ∃ k : Nat, gh + k = p.length ∧ i = .int .i64 k ∧ Arr wr g 3 (nats (wJ (mP p q) k)) ∧ w.grownBy wr none)
 case atStart => exact ⟨0, rfl, rfl, by rw [sD, rJ HL.out, xE]; exact HA2.out, HG2.out⟩
 case round =>
  clear HA2 HG2
  obtain ⟨k, hg, rfl, harr, hgr⟩ := hrel
  have HG := Kh hg; have HA := Kh harr; have HGR := Kh hgr
  have hln : (mP p q).length = p.length := rJ HL.out
  clear hg
  by_cases hk : k < p.length
  ·have hk' : (k : Int) < p.length := by omega
   have ca := (RA.out.kept hgr (by simp)).nat k hk
   have cb := (RB.out.kept hgr (by simp)).nat k (by rw [HL.out]; exact hk)
   have hset := rV (l := mP p q) (k := k) (by omega)
   rw [bothN_get HL.out hk] at hset
   have hpk := uP (i := k) HP.out (by omega)
   have hqk := uP (i := k) HQ.out (by omega)
   have cgk := harr.nat k (by rw [yV (by omega)]; omega)
   have fgk := harr.frozen k
   obtain ⟨a, ha⟩ : ∃ a, a = p.getD k 0 := ⟨_, rfl⟩
   obtain ⟨b, hb⟩ : ∃ b, b = q.getD k 0 := ⟨_, rfl⟩
   rw [← ha] at ca hset hpk
   rw [← hb] at cb hset hqk
   obtain ⟨X, hX⟩ : ∃ X, X = a * (p.length + 1) := ⟨_, rfl⟩
   have hXl : X ≤ 17592190238720 := by
    have h8 : a * (p.length + 1) ≤ 4194304 * 4194305 := Nat.mul_le_mul (by omega) (by omega)
    omega
   rw [← hX] at hset
   have hw := wrap_both hX hXl hqk
   have HW := Kh hw
   have HS := Kh hset
   have ca' : wr.drew.cell? ⟨pb, po + k, none⟩ = some (.int .i64 (a : Int)) := ca
   have cb' : wr.drew.cell? ⟨qb, qo + k, none⟩ = some (.int .i64 (b : Int)) := cb
   have hpg : pb ≠ g := by omega
   have hqg : qb ≠ g := by omega
   have HS1 : Hid (∀ u, ((wr.setCell ⟨g, k, none⟩ u).drew.cell? ⟨pb, po + k, none⟩ = some (.int .i64 (a : Int)))) := Kh (fun u => by
    show (wr.setCell ⟨g, k, none⟩ u).cell? ⟨pb, po + k, none⟩ = _
    rw [World.cell?_of_block ((zD wr ⟨g, k, none⟩ u).block pb (by have := hgr.size; have := HGE.out; omega) (by simp; omega))]; exact ca)
   have HS2 : Hid (∀ u, ((wr.setCell ⟨g, k, none⟩ u).drew.cell? ⟨qb, qo + k, none⟩ = some (.int .i64 (b : Int)))) := Kh (fun u => by
    show (wr.setCell ⟨g, k, none⟩ u).cell? ⟨qb, qo + k, none⟩ = _
    rw [World.cell?_of_block ((zD wr ⟨g, k, none⟩ u).block qb (by have := hgr.size; have := HGE.out; omega) (by simp; omega))]; exact cb)
   clear ha hb hset hgr harr hX hw
   go_upto_region 5 with fail
   go_region_held3 (fun w' => w'.cell? ⟨pb, po + k, none⟩ = some (.int .i64 (a : Int)) ∧ w'.cell? ⟨qb, qo + k, none⟩ = some (.int .i64 (b : Int))) (first | exact ⟨ca', cb'⟩ | exact ⟨HS1.out _, HS2.out _⟩ | go_keep | fail) (fail)
   all_goals
    clear ca ca' cb cb' HS1 HS2 cgk fgk
    go_wp2
    go_roundg (p.length - (k + 1))
    case measure => have := HG.out; omega
    case rel =>
     refine ⟨k + 1, by omega, by go_num, ?_, ?_⟩
     ·rw [← HS.out]
      have h1 := HA.out.nat_set k (by rw [yV (by omega)]; omega) (X + b)
      rw [HW.out]
      exact h1.of_heap rfl
     ·exact xF (zB HGR.out (zD wr ⟨g, k, none⟩ _) (fun q e => by have h7 : g = q := Option.some.inj e; have := HGE.out; omega)) rfl rfl rfl rfl
  ·have hkl : k = p.length := by have := HG.out; omega
   have HE : Hid (wJ (mP p q) k = mP p q) := Kh (by rw [hkl, ← hln]; exact rW _)
   clear hkl harr
   go_wp2_with fail
   rw [HE.out] at HA
   have HN := Kh (lQ (g + 1) wr (.slice (some ⟨g, 0, none⟩) p.length p.length) (qB p q) HA.out.lt (by
    rw [← bothN_ints]
    exact .inr ⟨g, 0, p.length, by rw [zZ, hln], by omega, by rw [zZ, hln]; exact Nat.le_refl _, by unfold maxLen; omega, HA.out.row⟩) HMID.out (by rw [tH HL.out]; exact hle))
   go_wp2_with fail
   refine HN.out.mono ?_
   rintro e w5 ⟨g5, rfl, hg5, ha5, hgr5⟩
   have hb8 : numb (qB p q) = kP p q := rfl
   have HA5 := Kh ha5; have HG5 := Kh hgr5
   clear ha5 hgr5
   go_wp2
   go_ret
   refine ⟨g5, rfl, ?_, HA5.out, zF HGR.out HG5.out⟩
   have := HGR.out.size
   omega
theorem qE {xs : List Int} {k : Nat} (h : k < xs.length) : xs.take (k + 1) = xs.take k ++ [xs.getD k 0] := by
 rw [List.take_add_one]; simp [List.getD, h]
set_option maxHeartbeats 400000 in
theorem same03_any (B C : Nat) (w : World) (va vb : Value) (xs ys : List Int) (ha : Row B w va (ints xs)) (hb : Row C w vb (ints ys)) :
  Calls Try.prog 81 #[va, vb] w fun e w' => e = .returned (.bool (decide (xs = ys))) ∧ ∃ m, w' = w.drewN m := by
 have hxl := ha.len_le
 rw [yJ] at hxl
 unfold maxLen at hxl
 have hyl := hb.len_le
 rw [yJ] at hyl
 unfold maxLen at hyl
 obtain ⟨aa, ac, rfl⟩ := ha.shape
 obtain ⟨ba, bc, rfl⟩ := hb.shape
 rw [yJ] at ha hb ⊢
 rw [yJ]
 by_cases hl : xs.length = ys.length
 ·by_cases h0 : xs.length = 0
  ·have hx : xs = [] := List.eq_nil_of_length_eq_zero h0
   have hy : ys = [] := List.eq_nil_of_length_eq_zero (by omega)
   subst hx; subst hy
   clear ha hb
   go_enter Try.func81, Try.ntmps81
   go_wp2
   go_loopg [13] 0 (fun g i wr => i = .int .i64 0 ∧ wr = w)
   case atStart => exact ⟨rfl, rfl⟩
   case round =>
    obtain ⟨rfl, rfl⟩ := hrel
    go_wp2
    go_ret
    exact ⟨zU rfl, 0, rfl⟩
  ·obtain ⟨ab, ao, ac', e, _, _, _, hra⟩ := ha.some_ (by rw [yJ]; omega)
   simp only [Value.slice.injEq] at e
   obtain ⟨rfl, -, -⟩ := e
   obtain ⟨bb, bo, bc', e, _, _, _, hrb⟩ := hb.some_ (by rw [yJ]; omega)
   simp only [Value.slice.injEq] at e
   obtain ⟨rfl, -, -⟩ := e
   have RA := Kh hra; have RB := Kh hrb; have HL := Kh hl
   clear ha hb hra hrb
   rw [← hl]
   clear hl
   go_enter Try.func81, Try.ntmps81
   go_wp2
   go_loopg [13] xs.length (fun g i wr => ∃ k : Nat, g + k = xs.length ∧ i = .int .i64 k ∧ xs.take k = ys.take k ∧ ∃ m, wr = w.drewN m)
   case atStart => exact ⟨0, rfl, rfl, rfl, 0, rfl⟩
   case round =>
    obtain ⟨k, hg, rfl, hok, m, rfl⟩ := hrel
    have HG := Kh hg; have OK := Kh hok; clear hg hok
    by_cases hk : k < xs.length
    ·have hk' : (k : Int) < xs.length := by omega
     have ca := RA.out.int k hk
     have cb := RB.out.int k (by have := HL.out; omega)
     obtain ⟨z, hz⟩ : ∃ z, z = xs.getD k 0 := ⟨_, rfl⟩
     obtain ⟨u, hu⟩ : ∃ u, u = ys.getD k 0 := ⟨_, rfl⟩
     rw [← hz] at ca
     rw [← hu] at cb
     have HZ := Kh hz; have HU := Kh hu; clear hz hu
     by_cases hzu : z = u
     ·have HN : Hid (xs.take (k + 1) = ys.take (k + 1)) := Kh (by rw [qE hk, qE (by have := HL.out; omega), OK.out, ← HZ.out, ← HU.out, hzu])
      subst hzu
      go_wp2
      go_quiet (fail)
      go_wp2
      go_roundg (xs.length - (k + 1))
      case measure => have := HG.out; omega
      case rel => exact ⟨k + 1, by omega, by go_num, HN.out, _, rfl⟩
     ·have e1 : (z != u) = true := by rw [bne_iff_ne]; exact hzu
      have HN : Hid (decide (xs = ys) = false) := Kh (by rw [decide_eq_false_iff_not]; rintro rfl; exact hzu (by rw [HZ.out, HU.out]))
      go_wp2
      go_quiet (fail)
      go_wp2
      go_ret
      exact ⟨zU HN.out.symm, _, by rw [World.drewN_drewN]⟩
    ·have HY : Hid (decide (xs = ys) = true) := by
      have hkz : k = xs.length := by have := HG.out; omega
      have := OK.out
      rw [List.take_of_length_le (by omega), List.take_of_length_le (by have := HL.out; omega)] at this
      exact Kh (by rw [decide_eq_true_eq]; exact this)
     go_wp2
     go_ret
     exact ⟨zU HY.out.symm, m, rfl⟩
 ·have e1 : ((xs.length : Int) != (ys.length : Int)) = true := by rw [bne_iff_ne]; omega
  have HN : Hid (decide (xs = ys) = false) := Kh (by rw [decide_eq_false_iff_not]; rintro rfl; exact hl rfl)
  clear ha hb
  go_enter Try.func81, Try.ntmps81
  go_wp2
  go_ret
  exact ⟨zU HN.out.symm, 0, rfl⟩
theorem cast_inj {l m : List Nat} : ((l.map fun (x : Nat) => (x : Int)) == (m.map fun (x : Nat) => (x : Int))) = decide (l = m) := by
 rw [Bool.eq_iff_iff, beq_iff_eq, decide_eq_true_eq]
 constructor
 ·intro h
  have := congrArg (List.map Int.toNat) h
  simpa [List.map_map, Function.comp_def] using this
 ·rintro rfl; rfl
theorem cast_dec {l m : List Nat} : decide ((l.map fun (x : Nat) => (x : Int)) = m.map fun (x : Nat) => (x : Int)) = decide (l = m) := by
 rw [← cast_inj (l := l) (m := m), Bool.eq_iff_iff, decide_eq_true_eq, beq_iff_eq]
structure DAt (B : Nat) (w : World) (d : DfaV) (n k fb fo fc b off cap : Nat) (RB RO RC : Nat → Nat) : Prop where
 ok : VD d n k
 flt : fb < B
 frow : wD w fb fo (bls d.final)
 fcap : n ≤ fc ∧ fc ≤ maxLen
 blt : b < B
 bltw : b < w.heap.size
 cap : n ≤ cap ∧ cap ≤ maxLen
 hd : ∀ q, q < n → w.cell? ⟨b, off + q, none⟩ = some (.slice (some ⟨RB q, RO q, none⟩) k (RC q))
 el : ∀ q a, q < n → a < k → w.cell? ⟨RB q, RO q + a, none⟩ = some (.int .i64 ((nx d q a : Nat) : Int))
 rlt : ∀ q, q < n → RB q < B ∧ RB q < w.heap.size
 rcap : ∀ q, q < n → k ≤ RC q ∧ RC q ≤ maxLen
theorem DAt.kept {B : Nat} {w w' : World} {d : DfaV} {n k fb fo fc b off cap : Nat} {RB RO RC : Nat → Nat} {row : Option Nat} (h : DAt B w d n k fb fo fc b off cap RB RO RC) (hg : w.grownBy w' row) (hr : ∀ k, row = some k → B ≤ k) : DAt B w' d n k fb fo fc b off cap RB RO RC where
 ok := h.ok
 flt := h.flt
 frow := h.frow.kept hg (fun e => by have := hr _ e; have := h.flt; omega)
 fcap := h.fcap
 blt := h.blt
 bltw := Nat.lt_of_lt_of_le h.bltw hg.size
 cap := h.cap
 hd := fun q hq => (World.cell?_of_block (hg.block b h.bltw (fun e => by have := hr b e.symm; have := h.blt; omega))).trans (h.hd q hq)
 el := fun q a hq ha => (World.cell?_of_block (hg.block (RB q) (h.rlt q hq).2 (fun e => by have := hr _ e.symm; have := (h.rlt q hq).1; omega))).trans (h.el q a hq ha)
 rlt := fun q hq => ⟨(h.rlt q hq).1, Nat.lt_of_lt_of_le (h.rlt q hq).2 hg.size⟩
 rcap := h.rcap
theorem DAt.fin {B : Nat} {w : World} {d : DfaV} {n k fb fo fc b off cap : Nat} {RB RO RC : Nat → Nat} (h : DAt B w d n k fb fo fc b off cap RB RO RC) {q : Nat} (hq : q < n) : w.cell? ⟨fb, fo + q, none⟩ = some (.bool (d.final.getD q false)) := by
 have hl := h.ok.hn
 have := wD.map h.frow q (by omega)
 rw [this, zI (by omega)]
def dAgg (k st fb fo fc b off cap n : Nat) : Value := .agg #[.int .i64 (k : Int), .int .i64 (st : Int), .slice (some ⟨fb, fo, none⟩) n fc, .slice (some ⟨b, off, none⟩) n cap]
theorem vQ.at {B : Nat} {w : World} {v : Value} {d : DfaV} {n k : Nat} (h : vQ B w v d) (hd : VD d n k) :
  ∃ fb fo fc b off cap RB RO RC, v = dAgg k (st0 d) fb fo fc b off cap n ∧ DAt B w d n k fb fo fc b off cap RB RO RC := by
 obtain ⟨fv, nv, rfl, hf, hn⟩ := h
 obtain ⟨fb, fo, fc, rfl, h1, h2, h3, h4⟩ := hf.some_ (by rw [xO, hd.hn]; exact hd.n1)
 obtain ⟨b, off, cap, A, C, rfl, k1, k2, k3⟩ := hn.some_ (by rw [hd.nl]; exact hd.n1)
 have hr : ∀ q, ∃ rb ro, q < n → A q = some ⟨rb, ro, none⟩ ∧ rb < B ∧ k ≤ C q ∧ C q ≤ maxLen ∧ wD w rb ro (ints (d.next.getD q [])) := by
  intro q
  by_cases hq : q < n
  ·have hl := hd.row q hq
   obtain ⟨rb, ro, c, e, h4, h5, h6, h7⟩ := (k3.row q (by rw [hd.nl]; exact hq)).some_ (by rw [yJ, hl]; exact hd.k1)
   simp only [Value.slice.injEq] at e
   rw [yJ, hl] at h5
   exact ⟨rb, ro, fun _ => ⟨e.1, h4, by rw [e.2.2]; exact h5, by rw [e.2.2]; exact h6, h7⟩⟩
  ·exact ⟨0, 0, fun h => absurd h hq⟩
 obtain ⟨RB, hRB⟩ := Classical.axiomOfChoice hr
 obtain ⟨RO, hRO⟩ := Classical.axiomOfChoice hRB
 rw [xO, hd.hn] at h2
 rw [hd.nl] at k1
 refine ⟨fb, fo, fc, b, off, cap, RB, RO, C, ?_, hd, h1, h4, ⟨h2, h3⟩, k3.lt, k3.ltw, ⟨k1, k2⟩, fun q hq => ?_, fun q a hq ha => ?_, fun q hq => ?_, fun q hq => ?_⟩
 ·rw [dAgg, lZ hd, hd.hk, xO, hd.hn, hd.nl]
 ·rw [k3.hd q (by rw [hd.nl]; exact hq), (hRO q hq).1, hd.row q hq]
 ·rw [(hRO q hq).2.2.2.2.int a (by rw [hd.row q hq]; exact ha), nx_cast hd hq ha]
  rfl
 ·have := hRO q hq
  exact ⟨this.2.1, this.2.2.2.2.1⟩
 ·have := hRO q hq
  exact ⟨this.2.2.1, this.2.2.2.1⟩
theorem zG {w : World} {p : Nat} {x0 x1 x2 x3 : Value} {e : Nat} (h : w.heap[p]? = some (.cells #[x0, x1, x2, x3] e (0, 0))) :
  w.cell? ⟨p, 0, none⟩ = some x0 ∧ w.cell? ⟨p, 1, none⟩ = some x1 ∧ w.cell? ⟨p, 2, none⟩ = some x2 ∧ w.cell? ⟨p, 3, none⟩ = some x3 := by
 have c0 := zK h 0 (by simp)
 have c1 := zK h 1 (by simp)
 have c2 := zK h 2 (by simp)
 have c3 := zK h 3 (by simp)
 simp only [List.getElem_toArray, List.getElem_cons_zero, List.getElem_cons_succ] at c0 c1 c2 c3
 exact ⟨c0, c1, c2, c3⟩
theorem pE {w : World} {g n : Nat} {l : List Nat} (h : wD w g 0 (nats l)) (hl : l.length = n) (hn : n ≤ 9223372036854775807) : Row (g + 1) w (.slice (some ⟨g, 0, none⟩) n n) (nats l) :=
 .inr ⟨g, 0, n, by rw [zZ, hl], by omega, by rw [zZ, hl]; exact Nat.le_refl _, by unfold maxLen; omega, h⟩
theorem colTo_take {d : DfaV} {p : List Nat} {a q : Nat} (hq : q < p.length) : (rH d p a).take (q + 1) = (rH d p a).take q ++ [p.getD (nx d q a) 0] := by
 rw [zW (d := 0) (by rw [uD]; exact hq), mL hq]
theorem colTo_lt {d : DfaV} {p : List Nat} {n a : Nat} (h : ∀ c ∈ p, c < n) (hn : 0 < n) : ∀ c ∈ rH d p a, c < n := by
 intro c hc
 obtain ⟨q, hq, rfl⟩ := List.mem_map.1 hc
 exact uP h hn
end Go.Proofs.Ytgbfaggnnfoamaa
