/- Part 14 of the proof: BX, ValidP, Trim. -/
import Derived.Test.YtjfdomfendbhfaaQb13
set_option linter.unusedVariables false
set_option linter.unusedSimpArgs false
namespace Go.Proofs.Ytjfdomfendbhfaa
open Go.RowKit
structure BX (W0 W : World) (o : Nat) (X : Nat → Prop) (k : Nat) (fs : List Bool) (t : List (List Int)) (hs : List Value) (sf : Option Addr) (cf : Nat) (sn : Option Addr) (cn : Nat) : Prop where
 lt : ∀ j, X j → j < W.heap.size
 box : W.heap[o]? = some (.cells #[.int .i64 (k : Int), .int .i64 0, .slice sf fs.length cf, .slice sn t.length cn] 42 (0, 0))
 ownF : W.ownsRow o 4 1 (.slice sf fs.length cf) fs.length (bls fs)
 ownN : W.ownsRow o 34 1 (.slice sn t.length cn) t.length hs
 rows : vX X 3 ints W hs t
 lo : W0.heap.size ≤ o
 grown : W0.grownBy W none
section
variable {W0 W W' : World} {o k : Nat} {X : Nat → Prop} {fs : List Bool} {t : List (List Int)} {hs : List Value} {sf : Option Addr} {cf : Nat} {sn : Option Addr} {cn : Nat}
theorem BX.start {w : World} {o k : Nat} (hb : w.heap[o]? = some (.cells #[.int .i64 (k : Int), .int .i64 0, .slice none 0 0, .slice none 0 0] 42 (0, 0))) (h0 : W0.heap.size ≤ o) (hg : W0.grownBy w none) : BX W0 w o (fun _ => False) k [] [] [] none 0 none 0 :=
 ⟨fun _ h => h.elim, hb, World.ownsRow_nil _ _ _ _, World.ownsRow_nil _ _ _ _, vX.nil, h0, hg⟩
theorem BX.grow (h : BX W0 W o X k fs t hs sf cf sn cn) (hg : W.grownBy W' none) : BX W0 W' o X k fs t hs sf cf sn cn where
 lt := fun j hj => Nat.lt_of_lt_of_le (h.lt j hj) hg.size
 box := zB h.box hg (by simp)
 ownF := zV h.ownF hg
 ownN := zV h.ownN hg
 rows := h.rows.keptT hg (by simp)
 lo := h.lo
 grown := zA h.grown hg (by simp)
theorem BX.put (h : BX W0 W o X k fs t hs sf cf sn cn) {g : Nat} {c : Array Value} {m : Nat × Nat} (hg : W.grownBy W' (some g)) (hc : W.heap[g]? = some (.cells c 3 m)) (hX : ¬ X g) (h0 : W0.heap.size ≤ g) : BX W0 W' o X k fs t hs sf cf sn cn where
 lt := fun j hj => Nat.lt_of_lt_of_le (h.lt j hj) hg.size
 box := zB h.box hg (fun e => by
  have := Option.some.inj e
  subst this
  rw [h.box] at hc
  simp only [Option.some.injEq, Obj.cells.injEq] at hc
  exact absurd hc.2.1 (by decide))
 ownF := h.ownF.kept hg (.inr (zS h.ownF hc (by decide)))
 ownN := h.ownN.kept hg (.inr (zS h.ownN hc (by decide)))
 rows := h.rows.kept (fun j hj => hg.block j (h.lt j hj) (fun e => by have := Option.some.inj e; subst this; exact hX hj)) hg.size
 lo := h.lo
 grown := zA h.grown hg (fun j e => by have := Option.some.inj e; omega)
theorem BX.pushN (h : BX W0 W o X k fs t hs sf cf sn cn) {m : Nat} (hm : t.length = m) {rv : Value} {row : List Int} {sn' : Option Addr} {cn' : Nat} {Y : Nat → Prop} (hXY : ∀ j, X j → Y j) (hY : ∀ j, Y j → j < W.heap.size) (ho : W'.ownsRow o 34 1 (.slice sn' (m + 1) cn') (m + 1) (hs ++ [rv])) (hg : W.grownBy W' (Value.slice sn m cn).ownBlock) (hrow : RowX Y 3 W rv (ints row)) {W2 : World} (hW2 : W2 = W'.setCell ⟨o, 3, none⟩ (.slice sn' (m + 1) cn')) :
  BX W0 W2 o Y k fs (t ++ [row]) (hs ++ [rv]) sf cf sn' cn' := by
 subst hm
 have hb := zB h.box hg (zS h.ownN h.box (by decide))
 have hs2 := heap_setCell_same W' o 3 _ _ (.slice sn' (t.length + 1) cn') hb
 have g2 := zD W' ⟨o, 3, none⟩ (.slice sn' (t.length + 1) cn')
 rw [← hW2] at hs2 g2
 have hF1 := h.ownF.kept hg (by
  rcases hv : (Value.slice sf fs.length cf).ownBlock with _ | j
  ·exact .inl rfl
  ·refine .inr fun e => ?_
   obtain ⟨cu, e', mm, hh, hne⟩ := yB (e' := 34) h.ownF (by decide) j hv
   exact zS h.ownN hh (fun e2 => hne e2.symm) e.symm)
 have hr1 : vX Y 3 ints W (hs ++ [rv]) (t ++ [row]) := (h.rows.mono hXY).snoc hrow
 have hr2 := hr1.keptT hg (fun j e => yB h.ownN (by decide) j e)
 have hob : zY W' 3 o := ⟨_, _, _, hb, by decide⟩
 have hz := hg.size
 have hz2 := g2.size
 exact ⟨fun j hj => by have := hY j hj; omega, by rw [hs2]; simp, hF1.kept g2 (.inr (zS hF1 hb (by decide))), by
  rw [List.length_append]
  exact ho.kept g2 (.inr (zS ho hb (by decide))), hr2.keptT g2 (fun j e => by have := Option.some.inj e; subst this; exact hob), h.lo, zA (zA h.grown hg (fun j e => Nat.le_trans h.lo (h.ownN.lt j e).1)) g2 (fun j e => by have e : o = j := Option.some.inj e; have := h.lo; omega)⟩
theorem BX.pushF (h : BX W0 W o X k fs t hs sf cf sn cn) {m : Nat} (hm : fs.length = m) {b : Bool} {sf' : Option Addr} {cf' : Nat} (ho : W'.ownsRow o 4 1 (.slice sf' (m + 1) cf') (m + 1) (bls fs ++ [.bool b])) (hg : W.grownBy W' (Value.slice sf m cf).ownBlock) {W2 : World} (hW2 : W2 = W'.setCell ⟨o, 2, none⟩ (.slice sf' (m + 1) cf')) :
  BX W0 W2 o X k (fs ++ [b]) t hs sf' cf' sn cn := by
 subst hm
 have hb := zB h.box hg (zS h.ownF h.box (by decide))
 have hs2 := heap_setCell_same W' o 2 _ _ (.slice sf' (fs.length + 1) cf') hb
 have g2 := zD W' ⟨o, 2, none⟩ (.slice sf' (fs.length + 1) cf')
 rw [← hW2] at hs2 g2
 have hN1 := h.ownN.kept hg (by
  rcases hv : (Value.slice sn t.length cn).ownBlock with _ | j
  ·exact .inl rfl
  ·refine .inr fun e => ?_
   obtain ⟨cu, e', mm, hh, hne⟩ := yB (e' := 4) h.ownN (by decide) j hv
   exact zS h.ownF hh (fun e2 => hne e2.symm) e.symm)
 have hr2 := h.rows.keptT hg (fun j e => yB h.ownF (by decide) j e)
 have hob : zY W' 3 o := ⟨_, _, _, hb, by decide⟩
 have hz := hg.size
 have hz2 := g2.size
 have hbl : bls (fs ++ [b]) = bls fs ++ [.bool b] := by simp [bls]
 exact ⟨fun j hj => by have := h.lt j hj; omega, by rw [hs2]; simp, by
  rw [List.length_append, hbl]
  exact ho.kept g2 (.inr (zS ho hb (by decide))), hN1.kept g2 (.inr (zS hN1 hb (by decide))), hr2.keptT g2 (fun j e => by have := Option.some.inj e; subst this; exact hob), h.lo, zA (zA h.grown hg (fun j e => Nat.le_trans h.lo (h.ownF.lt j e).1)) g2 (fun j e => by have e : o = j := Option.some.inj e; have := h.lo; omega)⟩
theorem BX.built (h : BX W0 W o X k fs t hs sf cf sn cn) (hl : fs.length = t.length) : Built o W o k 0 fs t hs sf cf sn cn := ⟨h.box, h.ownF, h.ownN, h.rows.rowsT, hl⟩
end
def vT (d : DfaV) (p : List Nat) (q : Nat) : List Bool := (uU p q).map fun q => d.final.getD q false
def uV (d : DfaV) (p : List Nat) (q : Nat) : List (List Int) := (uU p q).map fun q => rZ p (d.next.getD q [])
theorem quotFs_new {d : DfaV} {p : List Nat} {q : Nat} (h : p.getD q 0 = cls (p.take q)) : vT d p (q + 1) = vT d p q ++ [d.final.getD q false] := by
 rw [vT, uK h, List.map_append]; rfl
theorem quotTs_new {d : DfaV} {p : List Nat} {q : Nat} (h : p.getD q 0 = cls (p.take q)) : uV d p (q + 1) = uV d p q ++ [rZ p (d.next.getD q [])] := by
 rw [uV, uK h, List.map_append]; rfl
theorem quotFs_old {d : DfaV} {p : List Nat} {q : Nat} (h : p.getD q 0 ≠ cls (p.take q)) : vT d p (q + 1) = vT d p q := by rw [vT, uJ h]; rfl
theorem quotTs_old {d : DfaV} {p : List Nat} {q : Nat} (h : p.getD q 0 ≠ cls (p.take q)) : uV d p (q + 1) = uV d p q := by rw [uV, uJ h]; rfl
theorem quotFs_len {d : DfaV} {p : List Nat} {q : Nat} (h : Norm p) (hq : q ≤ p.length) : (vT d p q).length = cls (p.take q) := by rw [vT, List.length_map, uL h q hq]
theorem quotTs_len {d : DfaV} {p : List Nat} {q : Nat} (h : Norm p) (hq : q ≤ p.length) : (uV d p q).length = cls (p.take q) := by rw [uV, List.length_map, uL h q hq]
theorem quot_full {d : DfaV} {p : List Nat} {q : Nat} (hq : q = p.length) (h0 : p.getD (st0 d) 0 = 0) : (⟨d.letters, 0, vT d p q, uV d p q⟩ : DfaV) = uM d p := by
 rw [hq, uM, h0]; rfl
theorem norm_zero {p : List Nat} (h : Norm p) : p.getD 0 0 = 0 := by
 by_cases h0 : 0 < p.length
 ·have := (kK h h0).1
  rw [List.take_zero] at this
  simpa [cls, yC] using this
 ·rw [List.getD, List.getElem?_eq_none (by omega)]; rfl
set_option maxHeartbeats 800000 in
theorem uF (B : Nat) (w : World) (v : Value) (d : DfaV) (hB : B ≤ w.heap.size) (h : sC B w v d) :
  Calls Try.prog 55 #[v] w fun e w' => e = .returned (.int .i64 (wK d)) ∧ w.grownBy w' none := by
 obtain ⟨fv, nv, rfl, hf, hn⟩ := h
 have hfl := hf.len_le
 rw [xQ] at hfl
 unfold maxLen at hfl
 have hnl := hn.len_le
 unfold maxLen at hnl
 obtain ⟨fa, fc, rfl⟩ := hf.shape
 rw [xQ] at hf ⊢
 obtain ⟨na, nc, rfl⟩ := hn.shape
 have HN := Kh hn
 obtain ⟨n, hnn⟩ : ∃ n, n = d.final.length := ⟨_, rfl⟩
 obtain ⟨m, hmm⟩ : ∃ m, m = d.next.length := ⟨_, rfl⟩
 obtain ⟨L, hL⟩ : ∃ L, L = d.letters := ⟨_, rfl⟩
 obtain ⟨S, hS⟩ : ∃ S, S = d.start := ⟨_, rfl⟩
 rw [← hnn] at hfl ⊢
 rw [← hmm] at hnl HN ⊢
 rw [← hL, ← hS]
 have HNN := Kh hnn; have HMM := Kh hmm; have HLL := Kh hL; have HSS := Kh hS
 clear hf hn hnn hmm hL hS
 obtain ⟨wA, hWA⟩ : ∃ wA, wA = w.alloc (.cells #[.int .i64 L, .int .i64 S, .slice fa n fc, .slice na m nc] 42) := ⟨_, rfl⟩
 have hbox : wA.heap[w.heap.size]? = some (.cells #[.int .i64 L, .int .i64 S, .slice fa n fc, .slice na m nc] 42 (0, 0)) := by rw [hWA]; exact heap_alloc_new w _
 have hgA : w.grownBy wA none := by rw [hWA]; exact World.grownBy_alloc w _ none
 have c0 := zO hbox 0 (by simp)
 have c1 := zO hbox 1 (by simp)
 have c2 := zO hbox 2 (by simp)
 have c3 := zO hbox 3 (by simp)
 simp only [List.getElem_toArray, List.getElem_cons_zero, List.getElem_cons_succ] at c0 c1 c2 c3
 have HGA := Kh hgA; have HWA := Kh hWA
 clear hbox hgA hWA
 by_cases hl : L < 1 ∨ 6 < L
 ·have HE := Kh (validD_letters (d := d) (by rw [← HLL.out]; exact hl))
  by_cases h1 : L < 1
  ·clear hl
   go_enter Try.func55, Try.ntmps55
   go_upto_region 1 with fail
   rw [← HWA.out]
   go_wp2
   go_ret
   exact ⟨yE HE.out.symm, HGA.out⟩
  ·have h6 : 6 < L := by omega
   clear hl
   go_enter Try.func55, Try.ntmps55
   go_upto_region 1 with fail
   rw [← HWA.out]
   go_wp2
   go_ret
   exact ⟨yE HE.out.symm, HGA.out⟩
 ·have hl1 : 1 ≤ L := by omega
  have hl6 : L ≤ 6 := by omega
  have HLT : Hid (¬ (d.letters < 1 ∨ 6 < d.letters)) := Kh (by rw [← HLL.out]; exact hl)
  clear hl
  by_cases h5 : 512 < n
  ·have HE := Kh (validD_big HLT.out (by rw [← HNN.out]; exact h5))
   go_enter Try.func55, Try.ntmps55
   go_upto_region 1 with fail
   rw [← HWA.out]
   go_wp2
   go_ret
   exact ⟨yE HE.out.symm, HGA.out⟩
  ·have H5 : Hid (¬ 512 < d.final.length) := Kh (by rw [← HNN.out]; exact h5)
   by_cases hsh : n = 0 ∨ m ≠ n ∨ S < 0 ∨ n ≤ S
   ·have HE := Kh (validD_shape HLT.out H5.out (by rw [← HNN.out, ← HMM.out, ← HSS.out]; exact hsh))
    ·by_cases hmn : m = n
     ·have e1 : ((m : Int) != n) = false := by rw [hmn]; simp
      have HMN := Kh hmn
      by_cases hs : S < 0
      ·clear hsh hmn
       go_enter Try.func55, Try.ntmps55
       go_upto_region 1 with fail
       rw [← HWA.out]
       go_wp2
       go_ret
       exact ⟨yE HE.out.symm, HGA.out⟩
      ·have hs2 : (n : Int) ≤ S := by omega
       clear hsh hmn
       go_enter Try.func55, Try.ntmps55
       go_upto_region 1 with fail
       rw [← HWA.out]
       go_wp2
       go_ret
       exact ⟨yE HE.out.symm, HGA.out⟩
     ·have e1 : ((m : Int) != n) = true := by rw [bne_iff_ne]; omega
      clear hsh
      go_enter Try.func55, Try.ntmps55
      go_upto_region 1 with fail
      rw [← HWA.out]
      go_wp2
      go_ret
      exact ⟨yE HE.out.symm, HGA.out⟩
   ·have HSH : Hid (¬ (d.final.length = 0 ∨ d.next.length ≠ d.final.length ∨ d.start < 0 ∨ d.final.length ≤ d.start)) := Kh (by rw [← HNN.out, ← HMM.out, ← HSS.out]; exact hsh)
    have h0 : 0 < n := by omega
    have e0 : ((n : Int) == 0) = false := by rw [beq_eq_false_iff_ne]; omega
    have hmn : m = n := by omega
    have e1 : ((m : Int) != n) = false := by rw [hmn]; simp
    have hs1 : 0 ≤ S := by omega
    have hs2 : S < n := by omega
    have hm0 : 0 < m := by omega
    have hN2 : Mat B wA (.slice na m nc) d.next := HN.out.kept HGA.out (by simp)
    obtain ⟨b, off, cap, A, C, e, hc1, hc2, hma⟩ := hN2.some_ (by rw [← HMM.out]; exact hm0)
    simp only [Value.slice.injEq] at e
    obtain ⟨rfl, -, rfl⟩ := e
    rw [← HMM.out] at hc1
    have hmx : nc ≤ 9223372036854775807 := by unfold maxLen at hc2; omega
    have HM := Kh hma
    have HMN := Kh hmn
    clear hsh hmn hN2 hma
    go_enter Try.func55, Try.ntmps55
    go_upto_region 1 with fail
    rw [← HWA.out]
    go_wp2
    go_loopg [40] m (fun g i wr => ∃ k : Nat, g + k = m ∧ i = .int .i64 k ∧ DRows d k ∧ wA = wr)
    case atStart => exact ⟨0, rfl, rfl, fun x hx => absurd hx (by omega), rfl⟩
    case round =>
     obtain ⟨k, hg, rfl, hok, rfl⟩ := hrel
     have OK := Kh hok; have HG := Kh hg
     clear hok hg
     by_cases hk : k < m
     ·have hkl : k < d.next.length := by rw [← HMM.out]; exact hk
      have hcx := HM.out.hd k hkl
      have hrow := HM.out.row k hkl
      have hrl := hrow.len_le
      rw [yW] at hrl
      unfold maxLen at hrl
      obtain ⟨r, hr⟩ : ∃ r, r = d.next.getD k [] := ⟨_, rfl⟩
      rw [← hr] at hcx hrow hrl
      have HR := Kh hr; have HKL := Kh hkl
      clear hr hkl
      by_cases hlr : (r.length : Int) = L
      ·have HLR := Kh hlr
       have hl' : ((r.length : Int) != L) = false := by rw [hlr]; simp
       obtain ⟨rb, ro, rc, e, hb, h1, h2, hra⟩ := hrow.some_ (by rw [yW]; omega)
       simp only [Value.slice.injEq] at e
       obtain ⟨eA, -, rfl⟩ := e
       rw [eA] at hcx
       rw [yW] at h1
       have HA := Kh eA; have RA := Kh hra
       clear eA hra hlr hrow
       go_wp2
       go_loopg [51] r.length (fun g j wr' => ∃ y : Nat, g + y = r.length ∧ j = .int .i64 y ∧ EntsOk n r y ∧ wA = wr')
       case atStart => exact ⟨0, rfl, rfl, fun x hx => absurd hx (by omega), rfl⟩
       case round =>
        obtain ⟨y, hg, rfl, hok, rfl⟩ := hrel
        have OKY := Kh hok; have HG2 := Kh hg
        clear hok hg
        by_cases hy : y < r.length
        ·have hcy := RA.out.int y hy
         obtain ⟨z, hz⟩ : ∃ z, z = r.getD y 0 := ⟨_, rfl⟩
         rw [← hz] at hcy
         have HZ := Kh hz
         clear hz
         by_cases hb1 : z < 0
         ·have HE := Kh (mM HLT.out H5.out HSH.out HKL.out (by rw [← HR.out]; exact rowD_bad (y := y) hy (by rw [← HZ.out]; exact .inl hb1)))
          go_wp2
          go_ret
          exact ⟨yE HE.out.symm, HGA.out⟩
         ·by_cases hb2 : (n : Int) ≤ z
          ·have HE := Kh (mM HLT.out H5.out HSH.out HKL.out (by rw [← HR.out]; exact rowD_bad (y := y) hy (by rw [← HZ.out, ← HNN.out]; exact .inr hb2)))
           go_wp2
           go_ret
           exact ⟨yE HE.out.symm, HGA.out⟩
          ·go_wp2
           go_roundg (r.length - (y + 1))
           case measure => have := HG2.out; omega
           case rel =>
            refine ⟨y + 1, by omega, by go_num, fun x hx => ?_, rfl⟩
            rcases Nat.lt_succ_iff_lt_or_eq.1 hx with hx | rfl
            ·exact OKY.out x hx
            ·rw [← HZ.out]; omega
        ·go_wp2
         go_roundg (m - (k + 1))
         case measure => have := HG.out; omega
         case rel =>
          refine ⟨k + 1, by omega, by go_num, fun x hx => ?_, rfl⟩
          rcases Nat.lt_succ_iff_lt_or_eq.1 hx with hx | rfl
          ·exact OK.out x hx
          ·rw [← HR.out, pX, ← HNN.out, ← HLL.out]
           exact ⟨HLR.out, fun z hz => OKY.out z (by omega)⟩
      ·have hl' : ((r.length : Int) != L) = true := by rw [bne_iff_ne]; exact hlr
       have HE := Kh (mM HLT.out H5.out HSH.out HKL.out (by rw [← HR.out]; exact rowD_len (by rw [← HLL.out]; exact hlr)))
       clear hlr
       go_wp2
       go_ret
       exact ⟨yE HE.out.symm, HGA.out⟩
     ·have HE := Kh (validD_ok HLT.out H5.out HSH.out (fun q hq => OK.out q (by have := HMM.out; omega)))
      go_wp2
      go_ret
      exact ⟨yE HE.out.symm, HGA.out⟩
def tU (n : Nat) (l : List Nat) : List Int := (List.range n).map fun q => qL l q
theorem uO (n : Nat) (l : List Nat) : (tU n l).length = n := by simp [tU]
theorem placeL_get {n : Nat} {l : List Nat} {q : Nat} (h : q < n) : (tU n l).getD q 0 = qL l q := by
 rw [zI (by rw [uO]; exact h)]; simp [tU]
theorem placeL_nil (n : Nat) : tU n [] = List.replicate n (-1) := by
 refine List.ext_getElem (by simp [tU]) fun i h1 h2 => by simp [tU, qL]
theorem placeL_set {n : Nat} {l : List Nat} {q : Nat} (hq : q ∉ l) : (tU n l).set q (l.length : Int) = tU n (l ++ [q]) := by
 refine List.ext_getElem (by simp [tU]) fun i h1 h2 => ?_
 rw [List.getElem_set]
 simp only [tU, List.getElem_map, List.getElem_range, qL]
 by_cases e : q = i
 ·subst e
  rw [if_pos rfl, if_pos (by simp), List.idxOf_append, if_neg hq]; simp
 ·rw [if_neg e]
  by_cases hi : i ∈ l
  ·rw [if_pos hi, if_pos (by simp [hi]), List.idxOf_append, if_pos hi]
  ·rw [if_neg hi, if_neg (by simp [hi, Ne.symm e])]
def fillM (n k : Nat) : List Int := List.replicate k (-1) ++ List.replicate (n - k) 0
theorem lV {n k : Nat} (h : k ≤ n) : (fillM n k).length = n := by simp [fillM]; omega
theorem fillM_set {n k : Nat} (h : k < n) : (fillM n k).set k (-1) = fillM n (k + 1) := by
 unfold fillM
 rw [List.set_append_right _ _ (by simp), List.length_replicate, Nat.sub_self, show n - k = (n - (k + 1)) + 1 by omega, List.replicate_succ, List.set_cons_zero, List.replicate_succ', List.append_assoc]
 rfl
end Go.Proofs.Ytjfdomfendbhfaa
