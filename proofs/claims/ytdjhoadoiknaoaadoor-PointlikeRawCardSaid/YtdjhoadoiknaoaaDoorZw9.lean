/- Part 9 of the proof: Sets3. -/
import Derived.Test.YtdjhoadoiknaoaaDoorZw8
set_option linter.unusedVariables false
set_option linter.unusedSimpArgs false
namespace Go.Proofs.YtdjhoadoiknaoaaDoor
open Go.RowKit
theorem shr_cast (s x : Nat) : (s : Int) / 2 ^ x = ((s / 2 ^ x : Nat) : Int) := by
  rw [pow_cast]; rfl
theorem bit_zero {s x : Nat} (hs : s < 9223372036854775808) (hb : s.testBit x = false) : bits .and .i64 ((s : Int) / 2 ^ x) 1 = 0 := by
  have h1 : s / 2 ^ x < 9223372036854775808 := Nat.lt_of_le_of_lt (Nat.div_le_self _ _) hs
  have := i64_and_nat (s / 2 ^ x) 1 h1 (by omega)
  rw [Nat.testBit_eq_decide_div_mod_eq, decide_eq_false_iff_not] at hb
  rw [shr_cast]
  rw [Nat.and_one_is_mod] at this
  exact this.trans (by omega)
theorem bit_one {s x : Nat} (hs : s < 9223372036854775808) (hb : s.testBit x = true) : bits .and .i64 ((s : Int) / 2 ^ x) 1 = 1 := by
  have h1 : s / 2 ^ x < 9223372036854775808 := Nat.lt_of_le_of_lt (Nat.div_le_self _ _) hs
  have := i64_and_nat (s / 2 ^ x) 1 h1 (by omega)
  rw [Nat.testBit_eq_decide_div_mod_eq, decide_eq_true_eq] at hb
  rw [shr_cast]
  rw [Nat.and_one_is_mod] at this
  exact this.trans (by omega)
theorem SetsOk.c0 {F C p go n : Nat} {w : World} {tb : Nat → Nat → Nat} (h : SetsOk F C w p go n tb) : w.cell? ⟨p, 0, none⟩ = some (.int .i64 n) := by
  obtain ⟨_, _, _, h, _⟩ := h.cells
  exact h
def underAll (N : Nat) (l : List Nat) : List Bool := (List.range N).map (under l)
theorem underAll_eq {N : Nat} {l : List Nat} {bs : List Bool} (hl : bs.length = N) (h : ∀ s, s < N → bs.getD s false = under l s) : bs = underAll N l := by
  apply List.ext_getElem
  · simp [underAll, hl]
  · intro i h1 h2
    have := h i (by omega)
    simp only [List.getD, List.getElem?_eq_getElem h1, Option.getD_some] at this
    simp [underAll, this]
theorem underAll_get {N : Nat} {l : List Nat} {s : Nat} (hs : s < N) : (underAll N l).getD s false = under l s := by simp [underAll, List.getD, hs]
theorem underAll_length (N : Nat) (l : List Nat) : (underAll N l).length = N := by simp [underAll]
set_option maxRecDepth 100000 in
set_option maxHeartbeats 1000000 in
theorem inside_any (F C : Nat) (w : World) (p go n : Nat) (tb : Nat → Nat → Nat) (lv : Value) (B : Nat) (l : List Nat) (h : SetsOk F C w p go n tb) (hn : n ≤ 12) (hl : Row B w lv (nats l)) (hlt : ∀ b ∈ l, b < 2 ^ n) (hB : B ≤ w.heap.size) :
    Calls Tryd.prog 79 #[.pointer (some ⟨p, 0, none⟩), lv] w fun e w' => e = .returned (.slice (some ⟨w.heap.size, 0, none⟩) (2 ^ n) (2 ^ n)) ∧ Arr w' w.heap.size 4 (bls (underAll (2 ^ n) l)) ∧ w.grownBy w' none := by
  have hlm := hl.len_le
  rw [nats_length] at hlm
  unfold maxLen at hlm
  obtain ⟨la, lc, rfl⟩ := hl.shape
  rw [nats_length]
  have hsh := shl_eq (m := n) (by omega)
  obtain ⟨N, hN⟩ : ∃ N, N = 2 ^ n := ⟨_, rfl⟩
  have hN4 : N ≤ 4096 := by have := pow_le hn; omega
  rw [← hN] at hsh ⊢
  have HN := Lib.hid hN; have H := Lib.hid h; have HL := Lib.hid hl; have HLT := Lib.hid hlt
  have c0 := h.c0
  clear h hl hlt hN
  go_enter Tryd.func79, Tryd.ntmps79
  go_wp2_with (at_make; refine make1 rfl _ _ _ rfl elem_bool rfl _ _ _ _ N rfl rfl hsh hsh ?b1 ?b2 ?_; (case b1 => omega); (case b2 => (unfold maxLen; omega)); intro w1 ha1 hg1 hz1)
  rw [← bls_replicate] at ha1
  have HA1 := Lib.hid ha1; clear ha1
  go_loopg [18] l.length (fun g i wr => ∃ (k : Nat) (bs : List Bool), g + k = l.length ∧ i = .int .i64 k ∧ bs.length = N ∧ Arr wr w.heap.size 4 (bls bs) ∧ w.grownBy wr none ∧ Hid (∀ s, bs.getD s false = true ↔ s ∈ l.take k))
  case atStart =>
    refine ⟨0, _, rfl, rfl, by simp, HA1.out, hg1, Lib.hid fun s => ?_⟩
    simp [List.getD, List.getElem?_replicate]
    split <;> simp
  case round =>
    clear HA1 hg1 hz1
    obtain ⟨k, bs, hgk, rfl, hbl, harr, hgr, hmem⟩ := hrel
    have HGK := Lib.hid hgk; have HBL := Lib.hid hbl; have HARR := Lib.hid harr
    have hszr := harr.lt
    clear hgk hbl harr
    by_cases hk : k < l.length
    · have hk' : (k : Int) < l.length := by omega
      obtain ⟨gb, gf, gcap, e, _, _, _, _⟩ := HL.out.some_ (by rw [nats_length]; omega)
      simp only [Value.slice.injEq] at e
      obtain ⟨rfl, -, -⟩ := e
      obtain ⟨gb', go', gcap', e, _, _, _, hra⟩ := (HL.out.kept hgr (by simp)).some_ (by rw [nats_length]; omega)
      simp only [Value.slice.injEq, Option.some.injEq, Addr.mk.injEq, and_true] at e
      obtain ⟨⟨rfl, rfl⟩, -, -⟩ := e
      have ck := hra.nat k hk
      obtain ⟨x, hx⟩ : ∃ x, x = l.getD k 0 := ⟨_, rfl⟩
      have hxl : x < N := by rw [hx, HN.out]; exact getD_lt HLT.out hk
      have hxl' : (x : Int) < N := by omega
      rw [← hx] at ck
      have cx := HARR.out.bool x (by rw [HBL.out]; exact hxl)
      have fx := HARR.out.frozen x
      obtain ⟨u, hu⟩ : ∃ u, u = bs.getD x false := ⟨_, rfl⟩
      rw [← hu] at cx
      have hset := HARR.out.bool_set x (by rw [HBL.out]; exact hxl) true
      have HSET := Lib.hid hset; have HX := Lib.hid hx
      clear hra hset hx hu
      go_wp2
      go_roundg (l.length - (k + 1))
      case measure => have := HGK.out; omega
      case rel =>
        refine ⟨k + 1, bs.set x true, by omega, by go_num, by rw [List.length_set]; exact HBL.out, HSET.out, grown_far hgr (grownBy_setCell _ _ _) (by simp), Lib.hid fun s => ?_⟩
        rw [getD_take_snoc (d := 0) hk, List.mem_append, List.mem_singleton, ← HX.out]
        by_cases e : x = s
        · subst e
          rw [getD_set_eq _ _ _ _ (by rw [HBL.out]; exact hxl)]; simp
        · rw [getD_set_ne _ _ _ _ _ e, hmem.out s]
          exact ⟨.inl, fun h => h.elim id (fun h' => absurd h'.symm e)⟩
    · have hk2 : k = l.length := by have := HGK.out; omega
      have hmem2 : Hid (∀ s, bs.getD s false = true ↔ s ∈ l) := by
        have := hmem.out
        rw [hk2, List.take_length] at this
        exact Lib.hid this
      clear hmem hk2
      go_wp2
      go_loopg [8] N (fun g i wr => ∃ (k : Nat) (bs : List Bool), g = k ∧ i = .int .i64 ((k : Int) - 1) ∧ k ≤ N ∧ bs.length = N ∧ Arr wr w.heap.size 4 (bls bs) ∧ w.grownBy wr none ∧ Hid (∀ s, s < k → (bs.getD s false = true ↔ s ∈ l)) ∧ Hid (∀ s, k ≤ s → s < N → bs.getD s false = under l s))
      case atStart => exact ⟨N, bs, rfl, rfl, Nat.le_refl _, HBL.out, HARR.out, hgr, Lib.hid fun s _ => hmem2.out s, Lib.hid fun s h1 h2 => by omega⟩
      case round =>
        clear hmem2 HBL HARR hgr HGK
        obtain ⟨k2, bs2, hgk2, rfl, hk2, hbl2, harr2, hgr2, hm1, hm2⟩ := hrel
        have HGK2 := Lib.hid hgk2; have HBL2 := Lib.hid hbl2; have HARR2 := Lib.hid harr2
        clear hgk2 hbl2 harr2
        by_cases hp : 0 < k2
        · obtain ⟨s, rfl⟩ : ∃ s, k2 = s + 1 := ⟨k2 - 1, by omega⟩
          have e1 : ((s + 1 : Nat) : Int) - 1 = s := by omega
          rw [e1]
          clear e1
          have hsN : (s : Int) < N := by omega
          go_wp2
          go_loopg [9] n (fun g i wr => ∃ (x : Nat) (c : Bool), g + x = n ∧ i = .int .i64 x ∧ Arr wr w.heap.size 4 (bls (bs2.set s c)) ∧ w.grownBy wr none ∧ Hid (c = true ↔ s ∈ l ∨ ∃ y, y < x ∧ s.testBit y = false ∧ under l (s ||| 1 <<< y) = true))
          case atStart =>
            refine ⟨0, bs2.getD s false, rfl, rfl, ?_, hgr2, Lib.hid ?_⟩
            · have : bs2.set s (bs2.getD s false) = bs2 := by
                apply List.ext_getElem
                · simp
                · intro i h1 h2
                  rw [List.getElem_set]
                  split
                  · rename_i e; subst e; simp [List.getD, List.getElem?_eq_getElem h2]
                  · rfl
              rw [this]; exact HARR2.out
            · rw [hm1.out s (by omega)]
              exact ⟨.inl, fun h => h.elim id (fun ⟨y, hy, _⟩ => absurd hy (by omega))⟩
          case round =>
            clear HARR2 hgr2
            obtain ⟨x, c, hgx, rfl, harr3, hgr3, hc⟩ := hrel
            have HGX := Lib.hid hgx; have HARR3 := Lib.hid harr3
            have hlen3 : (bs2.set s c).length = N := by rw [List.length_set]; exact HBL2.out
            have cs := HARR3.out.bool s (by rw [hlen3]; omega)
            have fs := HARR3.out.frozen s
            rw [getD_set_eq _ _ _ _ (by rw [HBL2.out]; omega)] at cs
            have c0w := (H.out.kept hgr3 (by simp)).c0
            have HLEN3 := Lib.hid hlen3
            have hs63 : s < 9223372036854775808 := by omega
            clear hgx harr3 hlen3
            by_cases hx : x < n
            · cases c
              · have hset := fun v => HARR3.out.bool_set s (by rw [HLEN3.out]; omega) v
                have HSET := Lib.hid hset
                clear hset
                cases hbit : s.testBit x
                · have hb := bit_zero hs63 hbit
                  have hsx := shl_eq (m := x) (by omega)
                  have hlt := or_one_lt (show s < 2 ^ n by rw [← HN.out]; omega) hx
                  have hgt := or_one_gt hbit
                  rw [Nat.one_shiftLeft, ← HN.out] at hlt
                  rw [Nat.one_shiftLeft] at hgt
                  obtain ⟨M, hM⟩ : ∃ M, M = 2 ^ x := ⟨_, rfl⟩
                  rw [← hM] at hsx hlt hgt
                  have hM4 : M ≤ 4096 := by rw [hM]; have := pow_le (show x ≤ 12 by omega); omega
                  have e4 : bits .or .i64 (s : Int) (M : Int) = ((s ||| M : Nat) : Int) := i64_or_nat s M (by omega) (by omega)
                  obtain ⟨S2, hS⟩ : ∃ S2, S2 = s ||| M := ⟨_, rfl⟩
                  rw [← hS] at e4 hlt hgt
                  have hlt' : (S2 : Int) < N := by omega
                  have c2 := HARR3.out.bool S2 (by rw [HLEN3.out]; exact hlt)
                  rw [getD_set_ne _ _ _ _ _ (by omega), hm2.out S2 (by omega) hlt] at c2
                  obtain ⟨v, hv⟩ : ∃ v, v = under l S2 := ⟨_, rfl⟩
                  rw [← hv] at c2
                  have hcv : Hid (v = true ↔ s ∈ l ∨ ∃ y, y < x + 1 ∧ s.testBit y = false ∧ under l (s ||| 1 <<< y) = true) := by
                    have h1 := hc.out
                    have e : under l (s ||| 1 <<< x) = v := by rw [Nat.one_shiftLeft, ← hM, ← hS, hv]
                    constructor
                    · intro h
                      exact .inr ⟨x, by omega, hbit, by rw [e]; exact h⟩
                    · rintro (h | ⟨y, hy, h2, h3⟩)
                      · have := h1.2 (.inl h); cases this
                      · rcases Nat.lt_succ_iff_lt_or_eq.1 hy with hy | rfl
                        · have := h1.2 (.inr ⟨y, hy, h2, h3⟩); cases this
                        · rw [e] at h3; exact h3
                  have HBIT := Lib.hid hbit
                  clear hbit hS hM hv
                  go_wp2
                  go_roundg (n - (x + 1))
                  case measure => have := HGX.out; omega
                  case rel =>
                    refine ⟨x + 1, v, by omega, by go_num, ?_, grown_far hgr3 (grownBy_setCell _ _ _) (by simp), hcv⟩
                    have := HSET.out v
                    rw [List.set_set] at this
                    exact this
                · have hb := bit_one hs63 hbit
                  have hcv : Hid (false = true ↔ s ∈ l ∨ ∃ y, y < x + 1 ∧ s.testBit y = false ∧ under l (s ||| 1 <<< y) = true) := by
                    have h1 := hc.out
                    constructor
                    · intro h; cases h
                    · rintro (h | ⟨y, hy, h2, h3⟩)
                      · exact h1.2 (.inl h)
                      · rcases Nat.lt_succ_iff_lt_or_eq.1 hy with hy | rfl
                        · exact h1.2 (.inr ⟨y, hy, h2, h3⟩)
                        · rw [hbit] at h2; cases h2
                  have HBIT := Lib.hid hbit
                  clear hbit
                  go_wp2
                  go_roundg (n - (x + 1))
                  case measure => have := HGX.out; omega
                  case rel =>
                    refine ⟨x + 1, false, by omega, by go_num, ?_, grown_far hgr3 (grownBy_setCell _ _ _) (by simp), hcv⟩
                    have := HSET.out false
                    rw [List.set_set] at this
                    exact this
              · have hu : Hid (under l s = true) := by
                  have h1 := hc.out.1 rfl
                  refine Lib.hid ((under_step HLT.out s).2 (h1.imp id fun ⟨y, hy, h2, h3⟩ => ⟨y, by omega, h2, h3⟩))
                go_wp2
                go_roundg s
                case measure => have := HGK2.out; omega
                case rel =>
                  refine ⟨s, bs2.set s true, rfl, by go_num, by omega, HLEN3.out, HARR3.out, hgr3, Lib.hid fun z hz => ?_, Lib.hid fun z h1 h2 => ?_⟩
                  · rw [getD_set_ne _ _ _ _ _ (by omega)]; exact hm1.out z (by omega)
                  · by_cases e : s = z
                    · subst e; rw [getD_set_eq _ _ _ _ (by rw [HBL2.out]; omega), hu.out]
                    · rw [getD_set_ne _ _ _ _ _ e]; exact hm2.out z (by omega) h2
            · have hu : Hid (under l s = c) := by
                have hxn : x = n := by have := HGX.out; omega
                have h1 := hc.out
                rw [hxn] at h1
                refine Lib.hid ?_
                rw [Bool.eq_iff_iff]
                exact (under_step HLT.out s).trans h1.symm
              go_wp2
              go_roundg s
              case measure => have := HGK2.out; omega
              case rel =>
                refine ⟨s, bs2.set s c, rfl, by go_num, by omega, HLEN3.out, HARR3.out, hgr3, Lib.hid fun z hz => ?_, Lib.hid fun z h1 h2 => ?_⟩
                · rw [getD_set_ne _ _ _ _ _ (by omega)]; exact hm1.out z (by omega)
                · by_cases e : s = z
                  · subst e; rw [getD_set_eq _ _ _ _ (by rw [HBL2.out]; omega), hu.out]
                  · rw [getD_set_ne _ _ _ _ _ e]; exact hm2.out z (by omega) h2
        · have hk0 : k2 = 0 := by omega
          have hall : Hid (bs2 = underAll N l) := by
            have h2 := hm2.out
            exact Lib.hid (underAll_eq HBL2.out (fun s hs => h2 s (by omega) hs))
          clear hk0
          go_wp2
          go_ret
          exact ⟨rfl, by rw [← hall.out]; exact HARR2.out, hgr2⟩
end Go.Proofs.YtdjhoadoiknaoaaDoor
