/- Part 7 of the proof: Sets3, Shape, Assoc, Ref40a. -/
import Derived.Test.YtdjhoadoiknaoaaDoorZa6
set_option linter.unusedVariables false
set_option linter.unusedSimpArgs false
namespace Go.Proofs.YtdjhoadoiknaoaaDoor
open Go.RowKit
theorem shr_cast (s x : Nat) : (s : Int) / 2 ^ x = ((s / 2 ^ x : Nat) : Int) := by
 rw [pow_cast]; rfl
theorem bit_zero {s x : Nat} (hs : s < 9223372036854775808) (hb : s.testBit x = false) : bits .and .i64 ((s : Int) / 2 ^ x) 1 = 0 := by
 have h1 : s / 2 ^ x < 9223372036854775808 := Nat.lt_of_le_of_lt (Nat.div_le_self _ _) hs
 have := sX (s / 2 ^ x) 1 h1 (by omega)
 rw [Nat.testBit_eq_decide_div_mod_eq, decide_eq_false_iff_not] at hb
 rw [shr_cast]
 rw [Nat.and_one_is_mod] at this
 exact this.trans (by omega)
theorem bit_one {s x : Nat} (hs : s < 9223372036854775808) (hb : s.testBit x = true) : bits .and .i64 ((s : Int) / 2 ^ x) 1 = 1 := by
 have h1 : s / 2 ^ x < 9223372036854775808 := Nat.lt_of_le_of_lt (Nat.div_le_self _ _) hs
 have := sX (s / 2 ^ x) 1 h1 (by omega)
 rw [Nat.testBit_eq_decide_div_mod_eq, decide_eq_true_eq] at hb
 rw [shr_cast]
 rw [Nat.and_one_is_mod] at this
 exact this.trans (by omega)
theorem wH.c0 {F C p go n : Nat} {w : World} {tb : Nat → Nat → Nat} (h : wH F C w p go n tb) : w.cell? ⟨p, 0, none⟩ = some (.int .i64 n) := by
 obtain ⟨_, _, _, h, _⟩ := h.cells
 exact h
def tJ (N : Nat) (l : List Nat) : List Bool := (List.range N).map (under l)
theorem underAll_eq {N : Nat} {l : List Nat} {bs : List Bool} (hl : bs.length = N) (h : ∀ s, s < N → bs.getD s false = under l s) : bs = tJ N l := by
 apply List.ext_getElem
 ·simp [tJ, hl]
 ·intro i h1 h2
  have := h i (by omega)
  simp only [List.getD, List.getElem?_eq_getElem h1, Option.getD_some] at this
  simp [tJ, this]
theorem underAll_get {N : Nat} {l : List Nat} {s : Nat} (hs : s < N) : (tJ N l).getD s false = under l s := by simp [tJ, List.getD, hs]
theorem underAll_length (N : Nat) (l : List Nat) : (tJ N l).length = N := by simp [tJ]
set_option maxRecDepth 100000 in
set_option maxHeartbeats 1000000 in
theorem inside_any (F C : Nat) (w : World) (p go n : Nat) (tb : Nat → Nat → Nat) (lv : Value) (B : Nat) (l : List Nat) (h : wH F C w p go n tb) (hn : n ≤ 12) (hl : Row B w lv (nats l)) (hlt : ∀ b ∈ l, b < 2 ^ n) (hB : B ≤ w.heap.size) :
  Calls Tryd.prog 79 #[.pointer (some ⟨p, 0, none⟩), lv] w fun e w' => e = .returned (.slice (some ⟨w.heap.size, 0, none⟩) (2 ^ n) (2 ^ n)) ∧ Arr w' w.heap.size 4 (bls (tJ (2 ^ n) l)) ∧ w.grownBy w' none := by
 have hlm := hl.len_le
 rw [zN] at hlm
 unfold maxLen at hlm
 obtain ⟨la, lc, rfl⟩ := hl.shape
 rw [zN]
 have hsh := shl_eq (m := n) (by omega)
 obtain ⟨N, hN⟩ : ∃ N, N = 2 ^ n := ⟨_, rfl⟩
 have hN4 : N ≤ 4096 := by have := pow_le hn; omega
 rw [← hN] at hsh ⊢
 have HN := Kh hN; have H := Kh h; have HL := Kh hl; have HLT := Kh hlt
 have c0 := h.c0
 clear h hl hlt hN
 go_enter Tryd.func79, Tryd.ntmps79
 go_wp2_with (at_make; refine make1 rfl _ _ _ rfl xU rfl _ _ _ _ N rfl rfl hsh hsh ?b1 ?b2 ?_; (case b1 => omega); (case b2 => (unfold maxLen; omega)); intro w1 ha1 hg1 hz1)
 rw [← wV] at ha1
 have HA1 := Kh ha1; clear ha1
 go_loopg [18] l.length (fun g i wr => ∃ (k : Nat) (bs : List Bool), g + k = l.length ∧ i = .int .i64 k ∧ bs.length = N ∧ Arr wr w.heap.size 4 (bls bs) ∧ w.grownBy wr none ∧ Hid (∀ s, bs.getD s false = true ↔ s ∈ l.take k))
 case atStart =>
  refine ⟨0, _, rfl, rfl, by simp, HA1.out, hg1, Kh fun s => ?_⟩
  simp [List.getD, List.getElem?_replicate]
  split <;> simp
 case round =>
  clear HA1 hg1 hz1
  obtain ⟨k, bs, hgk, rfl, hbl, harr, hgr, hmem⟩ := hrel
  have HGK := Kh hgk; have HBL := Kh hbl; have HARR := Kh harr
  have hszr := harr.lt
  clear hgk hbl harr
  by_cases hk : k < l.length
  ·have hk' : (k : Int) < l.length := by omega
   obtain ⟨gb, gf, gcap, e, _, _, _, _⟩ := HL.out.some_ (by rw [zN]; omega)
   simp only [Value.slice.injEq] at e
   obtain ⟨rfl, -, -⟩ := e
   obtain ⟨gb', go', gcap', e, _, _, _, hra⟩ := (HL.out.kept hgr (by simp)).some_ (by rw [zN]; omega)
   simp only [Value.slice.injEq, Option.some.injEq, Addr.mk.injEq, and_true] at e
   obtain ⟨⟨rfl, rfl⟩, -, -⟩ := e
   have ck := hra.nat k hk
   obtain ⟨x, hx⟩ : ∃ x, x = l.getD k 0 := ⟨_, rfl⟩
   have hxl : x < N := by rw [hx, HN.out]; exact getD_lt HLT.out hk
   have hxl' : (x : Int) < N := by omega
   rw [← hx] at ck
   have cx := HARR.out.bool x (by rw [HBL.out]; exact hxl)
   have fx := HARR.out.frozen x
   obtain ⟨u, hu⟩ : ∃ u, u = bs.getD x false := ⟨_, rfl⟩
   rw [← hu] at cx
   have hset := HARR.out.bool_set x (by rw [HBL.out]; exact hxl) true
   have HSET := Kh hset; have HX := Kh hx
   clear hra hset hx hu
   go_wp2
   go_roundg (l.length - (k + 1))
   case measure => have := HGK.out; omega
   case rel =>
    refine ⟨k + 1, bs.set x true, by omega, by go_num, by rw [List.length_set]; exact HBL.out, HSET.out, zF hgr (zH _ _ _) (by simp), Kh fun s => ?_⟩
    rw [yC (d := 0) hk, List.mem_append, List.mem_singleton, ← HX.out]
    by_cases e : x = s
    ·subst e
     rw [vQ _ _ _ _ (by rw [HBL.out]; exact hxl)]; simp
    ·rw [getD_set_ne _ _ _ _ _ e, hmem.out s]
     exact ⟨.inl, fun h => h.elim id (fun h' => absurd h'.symm e)⟩
  ·have hk2 : k = l.length := by have := HGK.out; omega
   have hmem2 : Hid (∀ s, bs.getD s false = true ↔ s ∈ l) := by
    have := hmem.out
    rw [hk2, List.take_length] at this
    exact Kh this
   clear hmem hk2
   go_wp2
   go_loopg [8] N (fun g i wr => ∃ (k : Nat) (bs : List Bool), g = k ∧ i = .int .i64 ((k : Int) - 1) ∧ k ≤ N ∧ bs.length = N ∧ Arr wr w.heap.size 4 (bls bs) ∧ w.grownBy wr none ∧ Hid (∀ s, s < k → (bs.getD s false = true ↔ s ∈ l)) ∧ Hid (∀ s, k ≤ s → s < N → bs.getD s false = under l s))
   case atStart => exact ⟨N, bs, rfl, rfl, Nat.le_refl _, HBL.out, HARR.out, hgr, Kh fun s _ => hmem2.out s, Kh fun s h1 h2 => by omega⟩
   case round =>
    clear hmem2 HBL HARR hgr HGK
    obtain ⟨k2, bs2, hgk2, rfl, hk2, hbl2, harr2, hgr2, hm1, hm2⟩ := hrel
    have HGK2 := Kh hgk2; have HBL2 := Kh hbl2; have HARR2 := Kh harr2
    clear hgk2 hbl2 harr2
    by_cases hp : 0 < k2
    ·obtain ⟨s, rfl⟩ : ∃ s, k2 = s + 1 := ⟨k2 - 1, by omega⟩
     have e1 : ((s + 1 : Nat) : Int) - 1 = s := by omega
     rw [e1]
     clear e1
     have hsN : (s : Int) < N := by omega
     go_wp2
     go_loopg [9] n (fun g i wr => ∃ (x : Nat) (c : Bool), g + x = n ∧ i = .int .i64 x ∧ Arr wr w.heap.size 4 (bls (bs2.set s c)) ∧ w.grownBy wr none ∧ Hid (c = true ↔ s ∈ l ∨ ∃ y, y < x ∧ s.testBit y = false ∧ under l (s ||| 1 <<< y) = true))
     case atStart =>
      refine ⟨0, bs2.getD s false, rfl, rfl, ?_, hgr2, Kh ?_⟩
      ·have : bs2.set s (bs2.getD s false) = bs2 := by
        apply List.ext_getElem
        ·simp
        ·intro i h1 h2
         rw [List.getElem_set]
         split
         ·rename_i e; subst e; simp [List.getD, List.getElem?_eq_getElem h2]
         ·rfl
       rw [this]; exact HARR2.out
      ·rw [hm1.out s (by omega)]
       exact ⟨.inl, fun h => h.elim id (fun ⟨y, hy, _⟩ => absurd hy (by omega))⟩
     case round =>
      clear HARR2 hgr2
      obtain ⟨x, c, hgx, rfl, harr3, hgr3, hc⟩ := hrel
      have HGX := Kh hgx; have HARR3 := Kh harr3
      have hlen3 : (bs2.set s c).length = N := by rw [List.length_set]; exact HBL2.out
      have cs := HARR3.out.bool s (by rw [hlen3]; omega)
      have fs := HARR3.out.frozen s
      rw [vQ _ _ _ _ (by rw [HBL2.out]; omega)] at cs
      have c0w := (H.out.kept hgr3 (by simp)).c0
      have HLEN3 := Kh hlen3
      have hs63 : s < 9223372036854775808 := by omega
      clear hgx harr3 hlen3
      by_cases hx : x < n
      ·cases c
       ·have hset := fun v => HARR3.out.bool_set s (by rw [HLEN3.out]; omega) v
        have HSET := Kh hset
        clear hset
        cases hbit : s.testBit x
        ·have hb := bit_zero hs63 hbit
         have hsx := shl_eq (m := x) (by omega)
         have hlt := or_one_lt (show s < 2 ^ n by rw [← HN.out]; omega) hx
         have hgt := or_one_gt hbit
         rw [Nat.one_shiftLeft, ← HN.out] at hlt
         rw [Nat.one_shiftLeft] at hgt
         obtain ⟨M, hM⟩ : ∃ M, M = 2 ^ x := ⟨_, rfl⟩
         rw [← hM] at hsx hlt hgt
         have hM4 : M ≤ 4096 := by rw [hM]; have := pow_le (show x ≤ 12 by omega); omega
         have e4 : bits .or .i64 (s : Int) (M : Int) = ((s ||| M : Nat) : Int) := i64_or_nat s M (by omega) (by omega)
         obtain ⟨S2, hS⟩ : ∃ S2, S2 = s ||| M := ⟨_, rfl⟩
         rw [← hS] at e4 hlt hgt
         have hlt' : (S2 : Int) < N := by omega
         have c2 := HARR3.out.bool S2 (by rw [HLEN3.out]; exact hlt)
         rw [getD_set_ne _ _ _ _ _ (by omega), hm2.out S2 (by omega) hlt] at c2
         obtain ⟨v, hv⟩ : ∃ v, v = under l S2 := ⟨_, rfl⟩
         rw [← hv] at c2
         have hcv : Hid (v = true ↔ s ∈ l ∨ ∃ y, y < x + 1 ∧ s.testBit y = false ∧ under l (s ||| 1 <<< y) = true) := by
          have h1 := hc.out
          have e : under l (s ||| 1 <<< x) = v := by rw [Nat.one_shiftLeft, ← hM, ← hS, hv]
          constructor
          ·intro h
           exact .inr ⟨x, by omega, hbit, by rw [e]; exact h⟩
          ·rintro (h | ⟨y, hy, h2, h3⟩)
           ·have := h1.2 (.inl h); cases this
           ·rcases Nat.lt_succ_iff_lt_or_eq.1 hy with hy | rfl
            ·have := h1.2 (.inr ⟨y, hy, h2, h3⟩); cases this
            ·rw [e] at h3; exact h3
         have HBIT := Kh hbit
         clear hbit hS hM hv
         go_wp2
         go_roundg (n - (x + 1))
         case measure => have := HGX.out; omega
         case rel =>
          refine ⟨x + 1, v, by omega, by go_num, ?_, zF hgr3 (zH _ _ _) (by simp), hcv⟩
          have := HSET.out v
          rw [List.set_set] at this
          exact this
        ·have hb := bit_one hs63 hbit
         have hcv : Hid (false = true ↔ s ∈ l ∨ ∃ y, y < x + 1 ∧ s.testBit y = false ∧ under l (s ||| 1 <<< y) = true) := by
          have h1 := hc.out
          constructor
          ·intro h; cases h
          ·rintro (h | ⟨y, hy, h2, h3⟩)
           ·exact h1.2 (.inl h)
           ·rcases Nat.lt_succ_iff_lt_or_eq.1 hy with hy | rfl
            ·exact h1.2 (.inr ⟨y, hy, h2, h3⟩)
            ·rw [hbit] at h2; cases h2
         have HBIT := Kh hbit
         clear hbit
         go_wp2
         go_roundg (n - (x + 1))
         case measure => have := HGX.out; omega
         case rel =>
          refine ⟨x + 1, false, by omega, by go_num, ?_, zF hgr3 (zH _ _ _) (by simp), hcv⟩
          have := HSET.out false
          rw [List.set_set] at this
          exact this
       ·have hu : Hid (under l s = true) := by
         have h1 := hc.out.1 rfl
         refine Kh ((under_step HLT.out s).2 (h1.imp id fun ⟨y, hy, h2, h3⟩ => ⟨y, by omega, h2, h3⟩))
        go_wp2
        go_roundg s
        case measure => have := HGK2.out; omega
        case rel =>
         refine ⟨s, bs2.set s true, rfl, by go_num, by omega, HLEN3.out, HARR3.out, hgr3, Kh fun z hz => ?_, Kh fun z h1 h2 => ?_⟩
         ·rw [getD_set_ne _ _ _ _ _ (by omega)]; exact hm1.out z (by omega)
         ·by_cases e : s = z
          ·subst e; rw [vQ _ _ _ _ (by rw [HBL2.out]; omega), hu.out]
          ·rw [getD_set_ne _ _ _ _ _ e]; exact hm2.out z (by omega) h2
      ·have hu : Hid (under l s = c) := by
        have hxn : x = n := by have := HGX.out; omega
        have h1 := hc.out
        rw [hxn] at h1
        refine Kh ?_
        rw [Bool.eq_iff_iff]
        exact (under_step HLT.out s).trans h1.symm
       go_wp2
       go_roundg s
       case measure => have := HGK2.out; omega
       case rel =>
        refine ⟨s, bs2.set s c, rfl, by go_num, by omega, HLEN3.out, HARR3.out, hgr3, Kh fun z hz => ?_, Kh fun z h1 h2 => ?_⟩
        ·rw [getD_set_ne _ _ _ _ _ (by omega)]; exact hm1.out z (by omega)
        ·by_cases e : s = z
         ·subst e; rw [vQ _ _ _ _ (by rw [HBL2.out]; omega), hu.out]
         ·rw [getD_set_ne _ _ _ _ _ e]; exact hm2.out z (by omega) h2
    ·have hk0 : k2 = 0 := by omega
     have hall : Hid (bs2 = tJ N l) := by
      have h2 := hm2.out
      exact Kh (underAll_eq HBL2.out (fun s hs => h2 s (by omega) hs))
     clear hk0
     go_wp2
     go_ret
     exact ⟨rfl, by rw [← hall.out]; exact HARR2.out, hgr2⟩
theorem shapeE_big {t : List (List Int)} (h : 400 < t.length) : uI t = 3 := by rw [uI, if_pos h]
theorem shapeE_bad {t : List (List Int)} (h : ¬ 400 < t.length) {x : Nat} (hx : x < t.length) (hb : rowOk t.length (t.getD x []) = false) : uI t = 4 := by
 rw [uI, if_neg h, if_neg (by omega), if_neg]
 intro ha
 have := List.all_eq_true.1 ha t[x] (List.getElem_mem hx)
 rw [List.getD, List.getElem?_eq_getElem hx] at hb
 rw [Option.getD_some, this] at hb; cases hb
theorem shapeE_ok {t : List (List Int)} (h : ¬ 400 < t.length) (h0 : 0 < t.length) (ha : ∀ x, x < t.length → rowOk t.length (t.getD x []) = true) : uI t = 0 := by
 rw [uI, if_neg h, if_neg (by omega), if_pos]
 rw [List.all_eq_true]
 intro r hr
 obtain ⟨x, hx, rfl⟩ := List.getElem_of_mem hr
 have := ha x hx
 rwa [List.getD, List.getElem?_eq_getElem hx] at this
theorem rowOk_len {n : Nat} {r : List Int} (h : r.length ≠ n) : rowOk n r = false := by simp [rowOk, h]
theorem rowOk_bad {n : Nat} {r : List Int} {y : Nat} (hy : y < r.length) (h : r.getD y 0 < 0 ∨ n ≤ r.getD y 0) : rowOk n r = false := by
 rw [← Bool.not_eq_true]
 intro hr
 have := (rowOk_iff.1 hr).2 y hy
 omega
def RowsOk (t : List (List Int)) (k : Nat) : Prop := ∀ x, x < k → rowOk t.length (t.getD x []) = true
def EntsOk (n : Nat) (r : List Int) (j : Nat) : Prop := ∀ y, y < j → 0 ≤ r.getD y 0 ∧ r.getD y 0 < n
set_option maxHeartbeats 400000 in
theorem shape_any (B : Nat) (w : World) (v : Value) (t : List (List Int)) (h : Mat B w v t) :
  Calls Tryd.prog 92 #[v] w fun e w' => e = .returned (.int .i64 (uI t)) ∧ w = w' := by
 by_cases h0 : 0 < t.length
 ·obtain ⟨b, off, cap, A, C, rfl, hc1, hc2, hm⟩ := h.some_ h0
  have hmx : cap ≤ 9223372036854775807 := by unfold maxLen at hc2; omega
  have HM := Kh hm; clear hm
  by_cases h4 : 400 < t.length
  ·go_enter Tryd.func92, Tryd.ntmps92
   go_wp2
   go_ret
   exact ⟨yD (shapeE_big h4).symm, rfl⟩
  ·have hne : ((t.length : Int) == 0) = false := by rw [beq_eq_false_iff_ne]; omega
   go_enter Tryd.func92, Tryd.ntmps92
   go_wp2
   go_loopg [15] t.length (fun g i wr => ∃ k : Nat, g + k = t.length ∧ i = .int .i64 k ∧ RowsOk t k ∧ w = wr)
   case atStart => exact ⟨0, rfl, rfl, fun x hx => absurd hx (by omega), rfl⟩
   case round =>
    obtain ⟨k, hg, rfl, hok, rfl⟩ := hrel
    have OK := Kh hok; clear hok
    by_cases hk : k < t.length
    ·have hcx := HM.out.hd k hk
     have hrow := HM.out.row k hk
     have hrl := hrow.len_le
     rw [zP] at hrl
     unfold maxLen at hrl
     obtain ⟨r, hr⟩ : ∃ r, r = t.getD k [] := ⟨_, rfl⟩
     rw [← hr] at hcx hrow hrl
     have HG := Kh hg; have HR := Kh hr; clear hg hr
     by_cases hl : r.length = t.length
     ·have HLL := Kh hl
      have hl' : ((r.length : Int) != t.length) = false := by rw [hl]; simp
      obtain ⟨rb, ro, rc, e, hb, h1, h2, hra⟩ := hrow.some_ (by rw [zP]; omega)
      simp only [Value.slice.injEq] at e
      obtain ⟨eA, -, rfl⟩ := e
      rw [eA] at hcx
      have HA := Kh eA; have RA := Kh hra
      rw [hl] at hcx
      rw [zP, hl] at h1
      clear eA hra hl
      go_wp2
      go_loopg [26] t.length (fun g j wr' => ∃ y : Nat, g + y = t.length ∧ j = .int .i64 y ∧ EntsOk t.length r y ∧ w = wr')
      case atStart => exact ⟨0, rfl, rfl, fun x hx => absurd hx (by omega), rfl⟩
      case round =>
       obtain ⟨y, hg, rfl, hok, rfl⟩ := hrel
       have OKY := Kh hok; clear hok
       by_cases hy : y < t.length
       ·have hcy := RA.out.int y (by rw [HLL.out]; exact hy)
        obtain ⟨z, hz⟩ : ∃ z, z = r.getD y 0 := ⟨_, rfl⟩
        rw [← hz] at hcy
        have HZ := Kh hz; have HG2 := Kh hg; clear hz hg
        by_cases hb1 : z < 0
        ·go_wp2
         go_ret
         exact ⟨yD (shapeE_bad h4 hk (rowOk_bad (y := y) (by rw [← HR.out, HLL.out]; exact hy) (by rw [← HR.out, ← HZ.out]; exact .inl hb1))).symm, rfl⟩
        ·by_cases hb2 : (t.length : Int) ≤ z
         ·go_wp2
          go_ret
          exact ⟨yD (shapeE_bad h4 hk (rowOk_bad (y := y) (by rw [← HR.out, HLL.out]; exact hy) (by rw [← HR.out, ← HZ.out]; exact .inr hb2))).symm, rfl⟩
         ·go_wp2
          go_roundg (t.length - (y + 1))
          case measure => have := HG2.out; omega
          case rel =>
           refine ⟨y + 1, by omega, by go_num, fun x hx => ?_, rfl⟩
           rcases Nat.lt_succ_iff_lt_or_eq.1 hx with hx | rfl
           ·exact OKY.out x hx
           ·rw [← HZ.out]; omega
       ·go_wp2
        go_roundg (t.length - (k + 1))
        case measure => have := HG.out; omega
        case rel =>
         refine ⟨k + 1, by omega, by go_num, fun x hx => ?_, rfl⟩
         rcases Nat.lt_succ_iff_lt_or_eq.1 hx with hx | rfl
         ·exact OK.out x hx
         ·rw [← HR.out, rowOk_iff]
          exact ⟨HLL.out, fun z hz => OKY.out z (by rw [HLL.out] at hz; omega)⟩
     ·have hl' : ((r.length : Int) != t.length) = true := by rw [bne_iff_ne]; omega
      have HLL := Kh hl; clear hl
      go_wp2
      go_ret
      exact ⟨yD (shapeE_bad h4 hk (by rw [← HR.out]; exact rowOk_len HLL.out)).symm, rfl⟩
    ·go_wp2
     go_ret
     exact ⟨yD (shapeE_ok h4 h0 (fun x hx => OK.out x (by omega))).symm, rfl⟩
 ·obtain ⟨a, c, e⟩ := h.shape
  have ht : t = [] := List.eq_nil_of_length_eq_zero (by omega)
  subst ht
  subst e
  clear h0
  go_enter Tryd.func92, Tryd.ntmps92
  go_wp2
  go_ret
  exact ⟨rfl, rfl⟩
def assAt (t : List (List Int)) (x y z : Nat) : Prop := entN t (entN t x y) z = entN t x (entN t y z)
theorem assoc_of_all {t : List (List Int)} (h : ∀ x, x < t.length → ∀ y, y < t.length → ∀ z, z < t.length → assAt t x y z) : Assoc t := fun g hg x y hx hy => h x hx g hg y hy
def idAt (t : List (List Int)) (e x : Nat) : Bool := entN t e x == x && entN t x e == x
def isId (t : List (List Int)) (e : Nat) : Bool := (List.range t.length).all (idAt t e)
def wK (t : List (List Int)) : Int := match (List.range t.length).find? (isId t) with
 | some e => e
 | none => -1
theorem find_range {p : Nat → Bool} {n e : Nat} (he : e < n) (hp : p e = true) (hb : ∀ x, x < e → p x = false) : (List.range n).find? p = some e := by
 rw [List.find?_eq_some_iff_getElem]
 refine ⟨hp, e, by simpa using he, by simp, fun j hj => by simp [hb j hj]⟩
theorem identI_some {t : List (List Int)} {e : Nat} (he : e < t.length) (hp : isId t e = true) (hb : ∀ x, x < e → isId t x = false) : wK t = e := by rw [wK, find_range he hp hb]
theorem identI_none {t : List (List Int)} (hb : ∀ x, x < t.length → isId t x = false) : wK t = -1 := by
 have : (List.range t.length).find? (isId t) = none := by
  rw [List.find?_eq_none]; intro x hx; rw [hb x (by simpa using hx)]; simp
 rw [wK, this]
theorem tL (p : Nat → Bool) (n : Nat) : (List.range (n + 1)).all p = ((List.range n).all p && p n) := by
 rw [List.range_succ, List.all_append]; simp
def NoId (t : List (List Int)) (k : Nat) : Prop := ∀ x, x < k → isId t x = false
set_option maxRecDepth 100000 in
set_option maxHeartbeats 800000 in
theorem identity14_any (B : Nat) (w : World) (v : Value) (t : List (List Int)) (h : Mat B w v t) (hs : Shape t) :
  Calls Tryd.prog 33 #[v] w fun e w' => e = .returned (.int .i64 (wK t)) ∧ w = w' := by
 obtain ⟨b, off, cap, RB, RO, RC, rfl, hc1, hc2, hq⟩ := h.sq hs
 have hmx : cap ≤ 9223372036854775807 := by unfold maxLen at hc2; omega
 have HQ := Kh hq; clear hs hq h
 go_enter Tryd.func33, Tryd.ntmps33
 go_wp2
 go_loopg [8] t.length (fun g i wr => ∃ k : Nat, g + k = t.length ∧ i = .int .i64 k ∧ NoId t k ∧ w = wr)
 case atStart => exact ⟨0, rfl, rfl, fun x hx => absurd hx (by omega), rfl⟩
 case round =>
  obtain ⟨x, hg, rfl, hok, rfl⟩ := hrel
  have OK := Kh hok; have HG := Kh hg; clear hok hg
  by_cases hx : x < t.length
  ·have hx' : (x : Int) < t.length := by omega
   have hxc := HQ.out.hd x hx
   go_wp2
   go_loopg [4, 13] t.length (fun g s i wr => ∃ (k : Nat) (c : Bool), g + k = t.length ∧ s = .bool c ∧ i = .int .i64 k ∧ Hid (c = (List.range k).all (idAt t x)) ∧ w = wr)
   case atStart => exact ⟨0, true, rfl, rfl, rfl, Kh rfl, rfl⟩
   case round =>
    obtain ⟨y, c, hg, rfl, rfl, hc, rfl⟩ := hrel
    have HGY := Kh hg; clear hg
    by_cases hy : y < t.length
    ·have hy' : (y : Int) < t.length := by omega
     have hyc := HQ.out.hd y hy
     have hxy := HQ.out.el x y hx hy
     have hyx := HQ.out.el y x hy hx
     cases c
     ·go_wp2
      go_roundg (t.length - (y + 1))
      case measure => have := HGY.out; omega
      case rel => exact ⟨y + 1, false, by omega, rfl, by go_num, Kh (by rw [tL, ← hc.out]; rfl), rfl⟩
     ·obtain ⟨p, hp⟩ : ∃ p, p = entN t x y := ⟨_, rfl⟩
      obtain ⟨q, hq⟩ : ∃ q, q = entN t y x := ⟨_, rfl⟩
      rw [← hp] at hxy
      rw [← hq] at hyx
      have HI : Hid (idAt t x y = (p == y && q == y)) := by rw [hp, hq]; exact Kh rfl
      clear hp hq
      by_cases h1 : p = y
      ·by_cases h2 : q = y
       ·have e1 : ((p : Int) == (y : Int)) = true := by rw [h1]; simp
        have e2 : ((q : Int) == (y : Int)) = true := by rw [h2]; simp
        have H1 := Kh h1; have H2 := Kh h2; clear h1 h2
        go_wp2
        go_roundg (t.length - (y + 1))
        case measure => have := HGY.out; omega
        case rel => exact ⟨y + 1, true, by omega, rfl, by go_num, Kh (by rw [tL, ← hc.out, HI.out, H1.out, H2.out]; simp), rfl⟩
       ·have e1 : ((p : Int) == (y : Int)) = true := by rw [h1]; simp
        have e2 : ((q : Int) == (y : Int)) = false := by rw [beq_eq_false_iff_ne]; omega
        have H1 := Kh h1; have H2 := Kh h2; clear h1 h2
        go_wp2
        go_roundg (t.length - (y + 1))
        case measure => have := HGY.out; omega
        case rel => exact ⟨y + 1, false, by omega, rfl, by go_num, Kh (by rw [tL, HI.out]; simp [H2.out]), rfl⟩
      ·have e1 : ((p : Int) == (y : Int)) = false := by rw [beq_eq_false_iff_ne]; omega
       have H1 := Kh h1; clear h1
       go_wp2
       go_roundg (t.length - (y + 1))
       case measure => have := HGY.out; omega
       case rel => exact ⟨y + 1, false, by omega, rfl, by go_num, Kh (by rw [tL, HI.out]; simp [H1.out]), rfl⟩
    ·have hI : Hid (c = isId t x) := by
      have : y = t.length := by have := HGY.out; omega
      subst this; exact hc
     cases c
     ·go_wp2
      go_roundg (t.length - (x + 1))
      case measure => have := HG.out; omega
      case rel =>
       refine ⟨x + 1, by omega, by go_num, fun x' hx' => ?_, rfl⟩
       rcases Nat.lt_succ_iff_lt_or_eq.1 hx' with hx' | rfl
       ·exact OK.out x' hx'
       ·exact hI.out.symm
     ·go_wp2
      go_ret
      exact ⟨yD (identI_some hx hI.out.symm OK.out).symm, rfl⟩
  ·go_wp2
   go_ret
   exact ⟨yD (identI_none (fun x' hx' => OK.out x' (by omega))).symm, rfl⟩
def inB (n : Nat) (l : List Int) : Bool := l.all fun x => decide (0 ≤ x ∧ x < n)
theorem tT {n : Nat} {l : List Int} : inB n l = true ↔ ∀ y, y < l.length → 0 ≤ l.getD y 0 ∧ l.getD y 0 < n := by
 simp only [inB, List.all_eq_true, decide_eq_true_eq]
 refine ⟨fun h y hy => ?_, fun h x hx => ?_⟩
 ·have := h (l[y]) (List.getElem_mem hy)
  simpa [List.getD, List.getElem?_eq_getElem hy] using this
 ·obtain ⟨y, hy, rfl⟩ := List.getElem_of_mem hx
  have := h y hy
  simpa [List.getD, List.getElem?_eq_getElem hy] using this
theorem inB_bad {n : Nat} {l : List Int} {y : Nat} (hy : y < l.length) (h : l.getD y 0 < 0 ∨ n ≤ l.getD y 0) : inB n l = false := by
 rw [← Bool.not_eq_true]
 intro hr
 have := tT.1 hr y hy
 omega
set_option maxHeartbeats 400000 in
theorem in14_any (B : Nat) (w : World) (a : Option Addr) (n cap : Nat) (v : Value) (l : List Int) (hn : n ≤ 9223372036854775807) (h : Row B w v (ints l)) :
  Calls Tryd.prog 69 #[.slice a n cap, v] w fun e w' => e = .returned (.bool (inB n l)) ∧ w = w' := by
 by_cases h0 : 0 < l.length
 ·obtain ⟨b, off, c, rfl, _, hc1, hc2, hra⟩ := h.some_ (by rw [zP]; exact h0)
  rw [zP] at *
  have hmx : c ≤ 9223372036854775807 := by unfold maxLen at hc2; omega
  have RA := Kh hra; clear hra h
  go_enter Tryd.func69, Tryd.ntmps69
  go_wp2
  go_loopg [9] l.length (fun g i wr => ∃ k : Nat, g + k = l.length ∧ i = .int .i64 k ∧ EntsOk n l k ∧ w = wr)
  case atStart => exact ⟨0, rfl, rfl, fun x hx => absurd hx (by omega), rfl⟩
  case round =>
   obtain ⟨y, hg, rfl, hok, rfl⟩ := hrel
   have OKY := Kh hok; have HG2 := Kh hg; clear hok hg
   by_cases hy : y < l.length
   ·have hcy := RA.out.int y hy
    obtain ⟨z, hz⟩ : ∃ z, z = l.getD y 0 := ⟨_, rfl⟩
    rw [← hz] at hcy
    have HZ := Kh hz; clear hz
    by_cases hb1 : z < 0
    ·go_wp2
     go_ret
     exact ⟨yA (inB_bad hy (by rw [← HZ.out]; exact .inl hb1)).symm, rfl⟩
    ·by_cases hb2 : (n : Int) ≤ z
     ·go_wp2
      go_ret
      exact ⟨yA (inB_bad hy (by rw [← HZ.out]; exact .inr hb2)).symm, rfl⟩
     ·go_wp2
      go_roundg (l.length - (y + 1))
      case measure => have := HG2.out; omega
      case rel =>
       refine ⟨y + 1, by omega, by go_num, fun x hx => ?_, rfl⟩
       rcases Nat.lt_succ_iff_lt_or_eq.1 hx with hx | rfl
       ·exact OKY.out x hx
       ·rw [← HZ.out]; omega
   ·go_wp2
    go_ret
    exact ⟨yA (tT.2 (fun x hx => OKY.out x (by omega))).symm, rfl⟩
 ·have hl : l = [] := List.eq_nil_of_length_eq_zero (by omega)
  subst hl
  obtain ⟨a', c, rfl⟩ := h.nil_ rfl
  clear h h0
  go_enter Tryd.func69, Tryd.ntmps69
  go_wp2
  refine wp_loop_rounds 1 ?_
  rw [rounds_succ]
  go_wp2
  go_ret
  exact ⟨rfl, rfl⟩
def setB (n : Nat) (s : Int) : Bool := decide (0 ≤ s ∧ s < (2 ^ n : Nat))
end Go.Proofs.YtdjhoadoiknaoaaDoor
