/- Part 36 of the proof: DSame, LawAll, PosKey, Bfs. -/
import Derived.Test.YtgbfaggnnfoamaaZi35
set_option linter.unusedVariables false
set_option linter.unusedSimpArgs false
namespace Go.Proofs.Ytgbfaggnnfoamaa
open Go.RowKit
set_option maxRecDepth 100000 in
set_option maxHeartbeats 1600000 in
theorem dsame_vd (B1 B2 : Nat) (w : World) (v1 v2 : Value) (d : DfaV) (n k : Nat) (hd : VD d n k) (h1 : vR B1 w v1 d) (h2 : vR B2 w v2 d) :
  Calls Try.prog 43 #[v1, v2] w fun e w' => e = .returned (.bool true) ∧ w.grownBy w' none := by
 obtain ⟨fb, fo, fc, b, off, cap, RB, RO, RC, rfl, hat⟩ := h1.at hd
 obtain ⟨fb', fo', fc', b', off', cap', RB', RO', RC', rfl, hat'⟩ := h2.at hd
 have hn := hd.nbig
 have hk6 := hd.k6
 obtain ⟨S, hS⟩ : ∃ S, S = st0 d := ⟨_, rfl⟩
 have hv1 : dAgg k (st0 d) fb fo fc b off cap n = .agg #[.int .i64 (k : Int), .int .i64 (S : Int), .slice (some ⟨fb, fo, none⟩) n fc, .slice (some ⟨b, off, none⟩) n cap] := by rw [hS]; rfl
 have hv2 : dAgg k (st0 d) fb' fo' fc' b' off' cap' n = .agg #[.int .i64 (k : Int), .int .i64 (S : Int), .slice (some ⟨fb', fo', none⟩) n fc', .slice (some ⟨b', off', none⟩) n cap'] := by rw [hS]; rfl
 rw [hv1, hv2]
 obtain ⟨hb1, hb2, hgA, hzA⟩ := uR w #[.int .i64 (k : Int), .int .i64 (S : Int), .slice (some ⟨fb, fo, none⟩) n fc, .slice (some ⟨b, off, none⟩) n cap] #[.int .i64 (k : Int), .int .i64 (S : Int), .slice (some ⟨fb', fo', none⟩) n fc', .slice (some ⟨b', off', none⟩) n cap'] 49
 obtain ⟨wA, hWA⟩ : ∃ wA, wA = (w.alloc (.cells #[.int .i64 (k : Int), .int .i64 (S : Int), .slice (some ⟨fb, fo, none⟩) n fc, .slice (some ⟨b, off, none⟩) n cap] 49)).alloc (.cells #[.int .i64 (k : Int), .int .i64 (S : Int), .slice (some ⟨fb', fo', none⟩) n fc', .slice (some ⟨b', off', none⟩) n cap'] 49) := ⟨_, rfl⟩
 rw [← hWA] at hb1 hb2 hgA hzA
 obtain ⟨P, hP⟩ : ∃ P, P = w.heap.size := ⟨_, rfl⟩
 obtain ⟨Q, hQ⟩ : ∃ Q, Q = w.heap.size + 1 := ⟨_, rfl⟩
 rw [← hP] at hb1
 rw [← hQ] at hb2
 have HPE := Kh hP; have HQE : Hid (Q = P + 1) := Kh (by omega)
 have HB1 := Kh hb1; have HB2 := Kh hb2; have HGA := Kh hgA; have HWA := Kh hWA
 have HAT := Kh hat; have HAT' := Kh hat'
 have hc1 := hat.cap
 have hc2 := hat'.cap
 have hf1 := hat.fcap
 have hf2 := hat'.fcap
 unfold maxLen at hc1 hc2 hf1 hf2
 have q1 := zG hb1
 have q2 := zG hb2
 clear hat hat' hd h1 h2 hv1 hv2 hb1 hb2 hgA hzA hWA hP hQ hS
 go_enter Try.func43, Try.ntmps43
 go_upto_region 1 with fail
 rw [← HWA.out, ← HPE.out, ← HQE.out]
 obtain ⟨p0, p1, p2, p3⟩ := q1
 obtain ⟨q0, q1, q2, q3⟩ := q2
 go_wp2
 clear p0 p1 p2 p3 q0 q1 q2 q3
 go_loopg [5, 41] n (fun gh s5 i wr => ∃ q : Nat, gh + q = n ∧ i = .int .i64 q ∧ wA.grownBy wr none)
 case atStart => exact ⟨0, rfl, rfl, zO _ _⟩
 case round =>
  obtain ⟨q, hgh, rfl, hg⟩ := hrel
  have HGH := Kh hgh; have HG := Kh hg
  clear hgh
  obtain ⟨p0, p1, p2, p3⟩ := zG (zA HB1.out hg (by simp))
  obtain ⟨q0, q1, q2, q3⟩ := zG (zA HB2.out hg (by simp))
  have ha := (HAT.out.kept HGA.out (by simp)).kept hg (by simp)
  have ha' := (HAT'.out.kept HGA.out (by simp)).kept hg (by simp)
  by_cases hq : q < n
  ·have hq' : (q : Int) < n := by omega
   have c1 := ha.fin hq
   have c2 := ha'.fin hq
   obtain ⟨x, hx⟩ : ∃ x, x = d.final.getD q false := ⟨_, rfl⟩
   rw [← hx] at c1 c2
   clear hx ha ha' hg
   go_wp2
   go_quiet (fail)
   go_wp2
   go_roundg (n - (q + 1))
   case measure => have := HGH.out; omega
   case rel => exact ⟨q + 1, by have := HGH.out; omega, by go_num, zB HG.out (by first | exact zX _ none | exact zJ _ _ none) (by simp)⟩
  ·have hq' : ¬ (q : Int) < n := by omega
   clear ha ha' hg
   go_wp2
   clear p0 p1 p2 p3 q0 q1 q2 q3
   go_loopg [6, 7, 59, 81] n (fun gh s6 s7 i s81 wr => ∃ q : Nat, gh + q = n ∧ i = .int .i64 q ∧ wA.grownBy wr none)
   case atStart => exact ⟨0, rfl, rfl, HG.out⟩
   case round =>
    clear HG HGH hq hq'
    obtain ⟨q, hgh, rfl, hg⟩ := hrel
    have HGH := Kh hgh; have HG := Kh hg
    clear hgh
    obtain ⟨p0, p1, p2, p3⟩ := zG (zA HB1.out hg (by simp))
    obtain ⟨q0, q1, q2, q3⟩ := zG (zA HB2.out hg (by simp))
    have ha := (HAT.out.kept HGA.out (by simp)).kept hg (by simp)
    have ha' := (HAT'.out.kept HGA.out (by simp)).kept hg (by simp)
    by_cases hq : q < n
    ·have hq' : (q : Int) < n := by omega
     have c1 := ha.hd q hq
     have c2 := ha'.hd q hq
     clear ha ha' hg
     go_wp2
     go_quiet (fail)
     go_wp2
     go_loopg [7, 81] k (fun gh s7 i wr => ∃ x : Nat, gh + x = k ∧ i = .int .i64 x ∧ wA.grownBy wr none)
     case atStart => exact ⟨0, rfl, rfl, zB HG.out (by first | exact zX _ none | exact zJ _ _ none) (by simp)⟩
     case round =>
      clear HG p0 p1 p2 p3 q0 q1 q2 q3 c1 c2
      obtain ⟨x, hghx, rfl, hg⟩ := hrel
      have HGX := Kh hghx; have HG := Kh hg
      clear hghx
      obtain ⟨p0, p1, p2, p3⟩ := zG (zA HB1.out hg (by simp))
      obtain ⟨q0, q1, q2, q3⟩ := zG (zA HB2.out hg (by simp))
      have ha := (HAT.out.kept HGA.out (by simp)).kept hg (by simp)
      have ha' := (HAT'.out.kept HGA.out (by simp)).kept hg (by simp)
      by_cases hx : x < k
      ·have hx' : (x : Int) < k := by omega
       have c1 := ha.hd q hq
       have c2 := ha'.hd q hq
       have e1 := ha.el q x hq hx
       have e2 := ha'.el q x hq hx
       have r1 := ha.rcap q hq
       have r2 := ha'.rcap q hq
       unfold maxLen at r1 r2
       obtain ⟨y, hy⟩ : ∃ y, y = nx d q x := ⟨_, rfl⟩
       rw [← hy] at e1 e2
       clear hy ha ha' hg
       go_wp2
       go_quiet (fail)
       go_wp2
       go_roundg (k - (x + 1))
       case measure => have := HGX.out; omega
       case rel => exact ⟨x + 1, by have := HGX.out; omega, by go_num, zB HG.out (by first | exact zX _ none | exact zJ _ _ none) (by simp)⟩
      ·have hx' : ¬ (x : Int) < k := by omega
       clear ha ha' hg
       go_wp2
       go_roundg (n - (q + 1))
       case measure => have := HGH.out; omega
       case rel => exact ⟨q + 1, by have := HGH.out; omega, by go_num, HG.out⟩
    ·have hq' : ¬ (q : Int) < n := by omega
     clear ha ha' hg
     go_wp2
     go_ret
     exact ⟨rfl, zB HGA.out HG.out (by simp)⟩
set_option maxRecDepth 100000 in
set_option maxHeartbeats 800000 in
theorem match_row (B : Nat) (w : World) (v : Value) (bs : List ByteArray) (s : ByteArray) (h : Row B w v (txtV bs)) (hs : ∀ i (hi : i < bs.length), bs[i].size ≤ maxLen) (hss : s.size ≤ maxLen) (hL : SomeLen w) :
  Calls Try.prog 19 #[.agg #[v], .string s] w fun e w' => e = .returned (.bool (yM bs s)) ∧ w.grownBy w' none := by
 by_cases h0 : 0 < bs.length
 ·obtain ⟨b, off, cap, rfl, hbB, hbc, hbm, hra⟩ := h.some_ (by rw [zR]; exact h0)
  rw [zR] at hbc ⊢
  exact match_anyW b off cap bs s w hbc hbm hra hs hss hL
 ·have hnil : bs = [] := List.eq_nil_of_length_eq_zero (by omega)
  subst hnil
  obtain ⟨a, cap, rfl⟩ := h.shape
  rw [zR] at h ⊢
  have hM : Hid (yM [] s = false) := Kh (by simp [yM, xD])
  have hE : patW [] 6 = 22 := by decide
  have h' : Row B w (.slice a 0 cap) (txtV []) := h
  show Calls Try.prog 19 #[.agg #[.slice a 0 cap], .string s] w _
  have hg1 := World.grownBy_alloc w (.cells #[.slice a 0 cap] 36) none
  obtain ⟨w1, hw1⟩ : ∃ w1, w1 = w.alloc (.cells #[.slice a 0 cap] 36) := ⟨_, rfl⟩
  have c0 : w1.cell? ⟨w.heap.size, 0, none⟩ = some (.slice a 0 cap) := by rw [hw1]; simp
  rw [← hw1] at hg1
  have HVA := Kh (pM B w1 _ [] 6 (h'.kept hg1 (by simp)) (fun i hi => by simp at hi))
  rw [hE] at HVA
  have HW1 := Kh hw1; have HG1 := Kh hg1
  clear h h' hg1 hw1 hE h0 hs
  go_enter Try.func19, Try.ntmps19
  go_upto_region 1 with fail
  rw [← HW1.out]
  go_wp2_with fail
  refine HVA.out.mono ?_
  rintro e w2 ⟨rfl, hg2⟩
  have HG2 := Kh (zB HG1.out hg2 (by simp))
  clear hg2 HVA c0
  go_wp2
  go_ret
  exact ⟨zW hM.out.symm, HG2.out⟩
set_option maxRecDepth 100000 in
set_option maxHeartbeats 800000 in
theorem dsame_zero (B1 B2 : Nat) (w : World) (v1 v2 : Value) (h1 : vR B1 w v1 zeroD) (h2 : vR B2 w v2 zeroD) :
  Calls Try.prog 43 #[v1, v2] w fun e w' => e = .returned (.bool true) ∧ w.grownBy w' none := by
 obtain ⟨fv, nv, rfl, hf, hn⟩ := h1
 obtain ⟨fv', nv', rfl, hf', hn'⟩ := h2
 obtain ⟨a1, c1, rfl⟩ := hf.shape
 obtain ⟨a2, c2, rfl⟩ := hn.shape
 obtain ⟨a3, c3, rfl⟩ := hf'.shape
 obtain ⟨a4, c4, rfl⟩ := hn'.shape
 show Calls Try.prog 43 #[.agg #[.int .i64 0, .int .i64 0, .slice a1 0 c1, .slice a2 0 c2], .agg #[.int .i64 0, .int .i64 0, .slice a3 0 c3, .slice a4 0 c4]] w _
 clear hf hn hf' hn'
 obtain ⟨hb1, hb2, hgA, hzA⟩ := uR w #[.int .i64 0, .int .i64 0, .slice a1 0 c1, .slice a2 0 c2] #[.int .i64 0, .int .i64 0, .slice a3 0 c3, .slice a4 0 c4] 49
 obtain ⟨wA, hWA⟩ : ∃ wA, wA = (w.alloc (.cells #[.int .i64 0, .int .i64 0, .slice a1 0 c1, .slice a2 0 c2] 49)).alloc (.cells #[.int .i64 0, .int .i64 0, .slice a3 0 c3, .slice a4 0 c4] 49) := ⟨_, rfl⟩
 rw [← hWA] at hb1 hb2 hgA hzA
 obtain ⟨P, hP⟩ : ∃ P, P = w.heap.size := ⟨_, rfl⟩
 obtain ⟨Q, hQ⟩ : ∃ Q, Q = w.heap.size + 1 := ⟨_, rfl⟩
 rw [← hP] at hb1
 rw [← hQ] at hb2
 have HPE := Kh hP; have HQE : Hid (Q = P + 1) := Kh (by omega)
 have HGA := Kh hgA; have HWA := Kh hWA
 obtain ⟨p0, p1, p2, p3⟩ := zG hb1
 obtain ⟨q0, q1, q2, q3⟩ := zG hb2
 clear hb1 hb2 hgA hzA hWA hP hQ
 go_enter Try.func43, Try.ntmps43
 go_upto_region 1 with fail
 rw [← HWA.out, ← HPE.out, ← HQE.out]
 go_wp2
 refine wp_loop_rounds 1 ?_
 rw [rounds_succ]
 go_wp2
 refine wp_loop_rounds 1 ?_
 rw [rounds_succ]
 go_wp2
 go_ret
 exact ⟨rfl, HGA.out⟩
theorem dsame_pat (B1 B2 : Nat) (w : World) (v1 v2 : Value) (bs : List ByteArray) (letters : Int) (h1 : vR B1 w v1 (uJ bs letters)) (h2 : vR B2 w v2 (uJ bs letters)) :
  Calls Try.prog 43 #[v1, v2] w fun e w' => e = .returned (.bool true) ∧ w.grownBy w' none := by
 by_cases hE : patW bs letters = 0
 ·have hV := vZ.1 hE
  obtain ⟨hk1, hk6, _⟩ := jL hV
  obtain ⟨k, hk⟩ : ∃ k : Nat, letters = (k : Int) := ⟨letters.toNat, by omega⟩
  subst hk
  obtain ⟨n, _, hd⟩ := jM hV
  exact dsame_vd B1 B2 w v1 v2 _ n k hd h1 h2
 ·rw [uJ, if_neg hE] at h1 h2
  exact dsame_zero B1 B2 w v1 v2 h1 h2
end Go.Proofs.Ytgbfaggnnfoamaa
namespace Go.Proofs.Ytgbfaggnnfoamaa
open Go.RowKit Go.Maps
theorem posmap_under : Try.prog.underlying 84 = some (.map 86 3) := by kernel_rfl
theorem pos_keyed : Keyed Try.prog 86 := Keyed.of_law (deep_law_laid (m := 5) (by kernel_rfl) (by decide) (of_decide_eq_true (by kernel_rfl)) (by kernel_rfl) (by kernel_rfl))
def posV (x : Nat × Nat) : Value := .agg #[.int .i64 (x.1 : Int), .int .i64 (x.2 : Int)]
def PosOk (x : Nat × Nat) : Prop := x.1 < 4611686018427387904 ∧ x.2 < 4611686018427387904
theorem jK : Try.prog.cellsOf 86 = 2 := by kernel_rfl
theorem pos_some {x0 x1 : Nat} (h0 : x0 < 4611686018427387904) (h1 : x1 < 4611686018427387904) : (keyOf Try.prog 86 (.agg #[.int .i64 (x0 : Int), .int .i64 (x1 : Int)])).isSome = true := by
 have hk : Try.prog.keyType 86 = true := by kernel_rfl
 unfold keyOf
 rw [Try.underlying86]
 simp only [hk, Bool.true_and]
 have hf : (Value.agg #[.int .i64 (x0 : Int), .int .i64 (x1 : Int)]).formed Try.prog 86 = true := by
  simp [Value.formed, Try.underlying86, jK]
 rw [if_pos hf]
 have hl : Try.prog.keyLits (Try.prog.types.size + 1) 86 (Value.agg #[.int .i64 (x0 : Int), .int .i64 (x1 : Int)]).cells.toList = some [.int .i64 (x0 : Int), .int .i64 (x1 : Int)] := by
  have hz : Try.prog.types.size = (Try.prog.types.size - 1) + 1 := by kernel_rfl
  rw [hz]
  unfold Program.keyLits
  rw [Try.underlying86]
  simp [Value.cells, jK, int_cells, uN _ h0, uN _ h1]
 rw [hl]; rfl
theorem pos_key : KeyK 84 86 PosOk posV where
 key := pos_keyed
 und := posmap_under
 of := fun x h => pos_some h.1 h.2
 inj := fun x y hx hy e => by
  simp only [posV, Value.agg.injEq] at e
  have e := congrArg Array.toList e
  simp only [List.cons.injEq, Value.int.injEq, true_and, and_true] at e
  exact Prod.ext (by omega) (by omega)
end Go.Proofs.Ytgbfaggnnfoamaa
namespace Go.Proofs.Ytgbfaggnnfoamaa
section
variable {α : Type} (nxt : α → Nat → α) (k : Nat) (s0 : α)
def oF (x : α) (w : List Nat) : α := w.foldl nxt x
structure BfsI (l : List α) (i a : Nat) : Prop where
 nd : l.Nodup
 hd : l[0]? = some s0
 le : i ≤ l.length
 cl : ∀ j x, j < i → l[j]? = some x → ∀ b, b < k → nxt x b ∈ l
 row : ∀ x, l[i]? = some x → ∀ b, b < a → b < k → nxt x b ∈ l
 re : ∀ x ∈ l, ∃ w, xS k w ∧ oF nxt s0 w = x
variable {nxt k s0}
theorem BfsI.start : BfsI nxt k s0 [s0] 0 0 :=
 ⟨by simp, rfl, by simp, fun j x h => by omega, fun x _ b hb => by omega, fun x hx => ⟨[], fun a ha => by simp at ha, by simp at hx; exact hx.symm⟩⟩
theorem BfsI.old {l : List α} {i a : Nat} (h : BfsI nxt k s0 l i a) {x : α} (hx : l[i]? = some x) (hm : nxt x a ∈ l) : BfsI nxt k s0 l i (a + 1) :=
 ⟨h.nd, h.hd, h.le, h.cl, fun y hy b hb hbk => by
  rcases Nat.lt_succ_iff_lt_or_eq.1 hb with hb | rfl
  ·exact h.row y hy b hb hbk
  ·rw [hx] at hy; rw [← Option.some.inj hy]; exact hm, h.re⟩
theorem BfsI.new {l : List α} {i a : Nat} (h : BfsI nxt k s0 l i a) (ha : a < k) {x : α} (hx : l[i]? = some x) (hm : nxt x a ∉ l) : BfsI nxt k s0 (l ++ [nxt x a]) i (a + 1) := by
 have hi : i < l.length := (List.getElem?_eq_some_iff.1 hx).1
 have hget : ∀ j, j < l.length → (l ++ [nxt x a])[j]? = l[j]? := fun j hj => List.getElem?_append_left hj
 refine ⟨?_, ?_, by simp; omega, fun j y hj hy b hb => ?_, fun y hy b hb hbk => ?_, fun y hy => ?_⟩
 ·rw [List.nodup_append]
  exact ⟨h.nd, by simp, fun y hy z hz e => by simp at hz; subst hz; subst e; exact hm hy⟩
 ·rw [hget 0 (by omega)]; exact h.hd
 ·rw [hget j (by omega)] at hy
  exact List.mem_append_left _ (h.cl j y hj hy b hb)
 ·rw [hget i hi] at hy
  rcases Nat.lt_succ_iff_lt_or_eq.1 hb with hb | rfl
  ·exact List.mem_append_left _ (h.row y hy b hb hbk)
  ·rw [hx] at hy; rw [← Option.some.inj hy]; simp
 ·rcases List.mem_append.1 hy with hy | hy
  ·exact h.re y hy
  ·simp at hy
   subst hy
   obtain ⟨w, hw, e⟩ := h.re x (List.mem_of_getElem? hx)
   refine ⟨w ++ [a], fun b hb => ?_, ?_⟩
   ·rcases List.mem_append.1 hb with hb | hb
    ·exact hw b hb
    ·simp at hb; omega
   ·simp [oF] at e ⊢; rw [e]
theorem BfsI.next {l : List α} {i : Nat} (h : BfsI nxt k s0 l i k) (hi : i < l.length) : BfsI nxt k s0 l (i + 1) 0 :=
 ⟨h.nd, h.hd, hi, fun j x hj hx b hb => by
  rcases Nat.lt_succ_iff_lt_or_eq.1 hj with hj | rfl
  ·exact h.cl j x hj hx b hb
  ·exact h.row x hx b hb hb, fun x _ b hb => by omega, h.re⟩
structure BfsD (nxt : α → Nat → α) (k : Nat) (s0 : α) (l : List α) : Prop where
 nd : l.Nodup
 hd : l[0]? = some s0
 cl : ∀ x ∈ l, ∀ b, b < k → nxt x b ∈ l
 re : ∀ x ∈ l, ∃ w, xS k w ∧ oF nxt s0 w = x
theorem BfsI.done {l : List α} {i : Nat} (h : BfsI nxt k s0 l i 0) (hi : ¬ i < l.length) : BfsD nxt k s0 l :=
 ⟨h.nd, h.hd, fun x hx b hb => by
  obtain ⟨j, hj, e⟩ := List.getElem_of_mem hx
  exact h.cl j x (by omega) (by rw [List.getElem?_eq_getElem hj, e]) b hb, h.re⟩
theorem BfsD.all {l : List α} (h : BfsD nxt k s0 l) : ∀ (w : List Nat) {x : α}, x ∈ l → xS k w → oF nxt x w ∈ l
 | [], x, hx, _ => hx
 | a :: w, x, hx, hw => BfsD.all h w (h.cl x hx a (hw a (by simp))) (fun b hb => hw b (List.mem_cons_of_mem _ hb))
theorem BfsD.mem0 {l : List α} (h : BfsD nxt k s0 l) : s0 ∈ l := List.mem_of_getElem? h.hd
def tA {α : Type} [BEq α] (nxt : α → Nat → α) (k : Nat) (l : List α) (x : α) : List Int := (List.range k).map fun a => ((l.idxOf (nxt x a) : Nat) : Int)
def bfsA {α : Type} [BEq α] (nxt : α → Nat → α) (k : Nat) (fin : α → Bool) (l : List α) : DfaV := ⟨k, 0, l.map fin, l.map (tA nxt k l)⟩
theorem bfsRow_more [BEq α] [LawfulBEq α] {l m : List α} {x : α} (h : ∀ b, b < k → nxt x b ∈ l) : tA nxt k (l ++ m) x = tA nxt k l x := by
 refine List.map_congr_left fun a ha => ?_
 rw [List.idxOf_append, if_pos (h a (List.mem_range.1 ha))]
variable {fin : α → Bool}
theorem oB [BEq α] {l : List α} {i : Nat} (hi : i < l.length) : (bfsA nxt k fin l).next.getD i [] = tA nxt k l l[i] := by
 show (l.map (tA nxt k l)).getD i [] = _
 rw [zI (by simpa using hi)]; simp
theorem bfsA_nx [BEq α] {l : List α} {i a : Nat} (hi : i < l.length) (ha : a < k) : nx (bfsA nxt k fin l) i a = l.idxOf (nxt l[i] a) := by
 unfold nx entN ent
 rw [oB hi, tA, zI (by simpa using ha)]
 simp
theorem BfsD.vd [BEq α] [LawfulBEq α] {l : List α} (h : BfsD nxt k s0 l) (h1 : 1 ≤ k) (h6 : k ≤ 6) (hl : l.length ≤ 4194304) : VD (bfsA nxt k fin l) l.length k := by
 have h0 : 0 < l.length := (List.getElem?_eq_some_iff.1 h.hd).1
 have hr : ∀ q, q < l.length → ((bfsA nxt k fin l).next.getD q []).length = k := fun q hq => by rw [oB hq]; simp [tA]
 refine ⟨rfl, h1, h6, by simp [bfsA], h0, hl, by simp [bfsA], by show (0 : Int) ≤ 0; omega, by show (0 : Int) < _; omega, hr, fun q a hq ha => ?_, fun q a hq ha => ?_⟩
 ·unfold ent
  rw [oB hq, tA, zI (by simpa using ha)]
  simp
 ·unfold ent
  rw [oB hq, tA, zI (by simpa using ha)]
  simp only [List.getElem_map, List.getElem_range]
  have := List.idxOf_lt_length_of_mem (h.cl l[q] (List.getElem_mem hq) a ha)
  omega
theorem BfsD.run [BEq α] [LawfulBEq α] {l : List α} (h : BfsD nxt k s0 l) : ∀ (w : List Nat) {i : Nat} (hi : i < l.length), xS k w → Go.Proofs.Ytgbfaggnnfoamaa.run (bfsA nxt k fin l) i w = l.idxOf (oF nxt l[i] w)
 | [], i, hi, _ => by
  show i = l.idxOf l[i]
  exact (h.nd.idxOf_getElem i hi).symm
 | a :: w, i, hi, hw => by
  have ha := hw a (by simp)
  have hm := h.cl l[i] (List.getElem_mem hi) a ha
  have hj := List.idxOf_lt_length_of_mem hm
  show Go.Proofs.Ytgbfaggnnfoamaa.run (bfsA nxt k fin l) (nx (bfsA nxt k fin l) i a) w = _
  rw [bfsA_nx hi ha, BfsD.run h w hj (fun b hb => hw b (List.mem_cons_of_mem _ hb)), List.getElem_idxOf]
  rfl
theorem BfsD.acc [BEq α] [LawfulBEq α] {l : List α} (h : BfsD nxt k s0 l) {w : List Nat} (hw : xS k w) : Go.Proofs.Ytgbfaggnnfoamaa.acc (bfsA nxt k fin l) (st0 (bfsA nxt k fin l)) w = fin (oF nxt s0 w) := by
 obtain ⟨h0, e⟩ := List.getElem?_eq_some_iff.1 h.hd
 show (l.map fin).getD (Go.Proofs.Ytgbfaggnnfoamaa.run (bfsA nxt k fin l) 0 w) false = _
 rw [h.run w h0 hw, e]
 have hm := h.all w h.mem0 hw
 have hj := List.idxOf_lt_length_of_mem hm
 rw [zI (by simpa using hj)]
 simp [List.getElem_map]
end
theorem mY : ∀ (n : Nat) (l : List (List Bool)), l.Nodup → (∀ x ∈ l, x.length = n) → l.length ≤ 2 ^ n
 | 0, l, hn, hl => by
  have : l ⊆ [[]] := fun x hx => by simp [List.eq_nil_of_length_eq_zero (hl x hx)]
  simpa using hn.length_le_of_subset this
 | n + 1, l, hn, hl => by
  have key : ∀ b : Bool, (l.filter fun x => x.headD false == b).length ≤ 2 ^ n := fun b => by
   have h0 : ∀ x ∈ l.filter (fun x => x.headD false == b), x = b :: x.tail ∧ x.length = n + 1 := fun x hx => by
    obtain ⟨h1, h2⟩ := List.mem_filter.1 hx
    have h3 := hl x h1
    cases x with
    | nil => simp at h3
    | cons c x => simp at h2; exact ⟨by rw [h2]; rfl, h3⟩
   have h1 := mY n ((l.filter fun x => x.headD false == b).map List.tail) (by
    rw [List.Nodup, List.pairwise_map]
    refine List.Pairwise.imp_of_mem ?_ (hn.filter _)
    intro x y hx hy hne e
    exact hne (by rw [(h0 x hx).1, (h0 y hy).1, e])) (fun x hx => by
    obtain ⟨y, hy, rfl⟩ := List.mem_map.1 hx
    rw [List.length_tail, (h0 y hy).2]; omega)
   rwa [List.length_map] at h1
  have h1 := key true
  have h2 := key false
  have h3 : ∀ l : List (List Bool), l.length = (l.filter fun x => x.headD false == true).length + (l.filter fun x => x.headD false == false).length := fun l => by
   induction l with
   | nil => rfl
   | cons x l ih =>
    rw [List.filter_cons, List.filter_cons]
    generalize x.headD false = b
    cases b
    ·rw [if_neg (by decide), if_pos (by decide), List.length_cons, List.length_cons]; omega
    ·rw [if_pos (by decide), if_neg (by decide), List.length_cons, List.length_cons]; omega
  have := h3 l
  rw [Nat.pow_succ]; omega
end Go.Proofs.Ytgbfaggnnfoamaa
