/- Part 12 of the proof: Ref40a. -/
import Derived.Test.YtdjhoadoiknaoaaDoorZw11
set_option linter.unusedVariables false
set_option linter.unusedSimpArgs false
namespace Go.Proofs.YtdjhoadoiknaoaaDoor
open Go.RowKit
def PB (n : Nat) (tb : Nat → Nat → Nat) (a b k j s : Nat) : Prop :=
  ∀ z, s.testBit z = true ↔ (∃ x y, x < k ∧ y < n ∧ a.testBit x = true ∧ b.testBit y = true ∧ tb x y = z) ∨ (∃ y, y < j ∧ a.testBit k = true ∧ b.testBit y = true ∧ tb k y = z)
theorem PB.skip {n : Nat} {tb : Nat → Nat → Nat} {a b k j s : Nat} (h : PB n tb a b k j s) (hb : ¬ (a.testBit k = true ∧ b.testBit j = true)) : PB n tb a b k (j + 1) s := by
  intro z
  rw [h z]
  refine or_congr_right ⟨fun ⟨y, hy, h⟩ => ⟨y, by omega, h⟩, fun ⟨y, hy, h1, h2, h3⟩ => ?_⟩
  rcases Nat.lt_succ_iff_lt_or_eq.1 hy with hy | rfl
  · exact ⟨y, hy, h1, h2, h3⟩
  · exact absurd ⟨h1, h2⟩ hb
theorem PB.add {n : Nat} {tb : Nat → Nat → Nat} {a b k j s : Nat} (h : PB n tb a b k j s) (h1 : a.testBit k = true) (h2 : b.testBit j = true) : PB n tb a b k (j + 1) (s ||| 2 ^ tb k j) := by
  intro z
  rw [← Nat.one_shiftLeft, bit_or_one, Bool.or_eq_true, decide_eq_true_eq, h z]
  constructor
  · rintro ((h | ⟨y, hy, h⟩) | e)
    · exact .inl h
    · exact .inr ⟨y, by omega, h⟩
    · exact .inr ⟨j, by omega, h1, h2, e⟩
  · rintro (h | ⟨y, hy, h3, h4, h5⟩)
    · exact .inl (.inl h)
    · rcases Nat.lt_succ_iff_lt_or_eq.1 hy with hy | rfl
      · exact .inl (.inr ⟨y, hy, h3, h4, h5⟩)
      · exact .inr h5
theorem PB.next {n : Nat} {tb : Nat → Nat → Nat} {a b k s : Nat} (h : PB n tb a b k n s) : PB n tb a b (k + 1) 0 s := by
  intro z
  rw [h z]
  constructor
  · rintro (⟨x, y, hx, h⟩ | ⟨y, hy, h1, h2, h3⟩)
    · exact .inl ⟨x, y, by omega, h⟩
    · exact .inl ⟨k, y, by omega, hy, h1, h2, h3⟩
  · rintro (⟨x, y, hx, h1, h2, h3, h4⟩ | ⟨y, hy, _⟩)
    · rcases Nat.lt_succ_iff_lt_or_eq.1 hx with hx | rfl
      · exact .inl ⟨x, y, hx, h1, h2, h3, h4⟩
      · exact .inr ⟨y, h1, h2, h3, h4⟩
    · omega
theorem PB.start {n : Nat} {tb : Nat → Nat → Nat} {a b : Nat} : PB n tb a b 0 0 0 := by
  intro z
  simp
theorem PB.end_ {n : Nat} {tb : Nat → Nat → Nat} {a b s : Nat} (h : PB n tb a b n 0 s) : s = prodSet n tb a b := by
  refine eq_prodSet fun z => ?_
  rw [h z]
  constructor
  · rintro (⟨x, y, h⟩ | ⟨y, hy, _⟩)
    · exact ⟨x, y, h⟩
    · omega
  · rintro ⟨x, y, h⟩
    exact .inl ⟨x, y, h⟩
set_option maxRecDepth 100000 in
set_option maxHeartbeats 1000000 in
theorem prod40_any (B : Nat) (w : World) (v : Value) (t : List (List Int)) (a b : Nat) (h : Mat B w v t) (hs : Shape t) (hn : t.length ≤ 12) (ha : a < 2 ^ t.length) (hb : b < 2 ^ t.length) :
    Calls Tryd.prog 55 #[v, .int .i64 (a : Int), .int .i64 (b : Int)] w fun e w' => e = .returned (.int .i64 (prodSet t.length (entN t) a b : Nat)) ∧ w = w' := by
  obtain ⟨tb_, off, cap, RB, RO, RC, rfl, hc1, hc2, hq⟩ := h.sq hs
  have hmx : cap ≤ 9223372036854775807 := by unfold maxLen at hc2; omega
  obtain ⟨N, hN⟩ : ∃ N, N = 2 ^ t.length := ⟨_, rfl⟩
  have hN4 : N ≤ 4096 := by have := pow_le hn; omega
  have ha63 : a < 9223372036854775808 := by omega
  have hb63 : b < 9223372036854775808 := by omega
  have HQ := Lib.hid hq; have HS := Lib.hid hs; have HN := Lib.hid hN
  clear hs hq h hN ha hb
  go_enter Tryd.func55, Tryd.ntmps55
  go_wp2
  go_loopg [7, 12] t.length (fun g sv i wr => ∃ k s : Nat, g + k = t.length ∧ i = .int .i64 k ∧ sv = .int .i64 s ∧ s < N ∧ Hid (PB t.length (entN t) a b k 0 s) ∧ w = wr)
  case atStart => exact ⟨0, 0, rfl, rfl, rfl, by rw [HN.out]; exact Nat.two_pow_pos _, Lib.hid PB.start, rfl⟩
  case round =>
    obtain ⟨k, s, hg, rfl, rfl, hs, hpb, rfl⟩ := hrel
    have HG := Lib.hid hg; clear hg
    by_cases hk : k < t.length
    · have hk' : (k : Int) < t.length := by omega
      have ck := HQ.out.hd k hk
      go_wp2
      go_loopg [7, 17] t.length (fun g sv i wr => ∃ j s : Nat, g + j = t.length ∧ i = .int .i64 j ∧ sv = .int .i64 s ∧ s < N ∧ Hid (PB t.length (entN t) a b k j s) ∧ w = wr)
      case atStart => exact ⟨0, s, rfl, rfl, rfl, hs, hpb, rfl⟩
      case round =>
        clear hs hpb
        obtain ⟨j, s, hg, rfl, rfl, hs, hpb, rfl⟩ := hrel
        have HGJ := Lib.hid hg; clear hg
        by_cases hj : j < t.length
        · have hj' : (j : Int) < t.length := by omega
          cases hba : a.testBit k
          · have e1 := bit_zero ha63 hba
            have hpb2 := Lib.hid (hpb.out.skip (by rw [hba]; simp))
            have HBA := Lib.hid hba
            clear hba
            go_wp2
            go_roundg (t.length - (j + 1))
            case measure => have := HGJ.out; omega
            case rel => exact ⟨j + 1, s, by omega, by go_num, rfl, hs, hpb2, rfl⟩
          · have e1 := bit_one ha63 hba
            cases hbb : b.testBit j
            · have e2 := bit_zero hb63 hbb
              have hpb2 := Lib.hid (hpb.out.skip (by rw [hbb]; simp))
              have HBA := Lib.hid hba; have HBB := Lib.hid hbb
              clear hba hbb
              go_wp2
              go_roundg (t.length - (j + 1))
              case measure => have := HGJ.out; omega
              case rel => exact ⟨j + 1, s, by omega, by go_num, rfl, hs, hpb2, rfl⟩
            · have e2 := bit_one hb63 hbb
              have hpb2 := Lib.hid (hpb.out.add hba hbb)
              have cj := HQ.out.el k j hk hj
              obtain ⟨m, hm⟩ : ∃ m, m = entN t k j := ⟨_, rfl⟩
              have hml : m < t.length := by rw [hm]; exact entN_lt HS.out hk hj
              rw [← hm] at cj hpb2
              have hsx := shl_eq (m := m) (by omega)
              have hor := or_one_lt (show s < 2 ^ t.length by rw [← HN.out]; exact hs) hml
              rw [Nat.one_shiftLeft, ← HN.out] at hor
              obtain ⟨M, hM⟩ : ∃ M, M = 2 ^ m := ⟨_, rfl⟩
              rw [← hM] at hsx hor hpb2
              have hM4 : M ≤ 4096 := by rw [hM]; have := pow_le (show m ≤ 12 by omega); omega
              have e4 : bits .or .i64 (s : Int) (M : Int) = ((s ||| M : Nat) : Int) := i64_or_nat s M (by omega) (by omega)
              have HBA := Lib.hid hba; have HBB := Lib.hid hbb
              clear hba hbb hm hM
              go_wp2
              go_roundg (t.length - (j + 1))
              case measure => have := HGJ.out; omega
              case rel => exact ⟨j + 1, s ||| M, by omega, by go_num, rfl, hor, hpb2, rfl⟩
        · have hpb2 : Hid (PB t.length (entN t) a b (k + 1) 0 s) := by
            have hjn : j = t.length := by have := HGJ.out; omega
            have := hpb.out
            rw [hjn] at this
            exact Lib.hid this.next
          go_wp2
          go_roundg (t.length - (k + 1))
          case measure => have := HG.out; omega
          case rel => exact ⟨k + 1, s, by omega, by go_num, rfl, hs, hpb2, rfl⟩
    · have he : Hid (s = prodSet t.length (entN t) a b) := by
        have hkn : k = t.length := by have := HG.out; omega
        have := hpb.out
        rw [hkn] at this
        exact Lib.hid this.end_
      go_wp2
      go_ret
      exact ⟨ret_int (by rw [← he.out]), rfl⟩
set_option maxRecDepth 100000 in
theorem omega40_any (B : Nat) (w : World) (v : Value) (t : List (List Int)) (a : Nat) (h : Mat B w v t) (hv : validE t = 0) (hn : t.length ≤ 12) (ha : a < 2 ^ t.length) :
    Calls Tryd.prog 57 #[v, .int .i64 (a : Int)] w fun e w' => e = .returned (.int .i64 (omegaSet t.length (entN t) a : Nat)) ∧ w = w' := by
  have hs := (valid_of hv).1
  have ht := tb_of hv
  obtain ⟨N, hN⟩ : ∃ N, N = 2 ^ t.length := ⟨_, rfl⟩
  have hN4 : N ≤ 4096 := by have := pow_le hn; omega
  obtain ⟨O, hO⟩ : ∃ O, O = omegaSet t.length (entN t) a := ⟨_, rfl⟩
  rw [← hO]
  have H := Lib.hid h; have HS := Lib.hid hs; have HN := Lib.hid hN; have HTB := Lib.hid ht; have HO := Lib.hid hO; have HA := Lib.hid ha
  have haN : a < N := by omega
  clear h hs hN ht hO ha hv
  go_enter Tryd.func57, Tryd.ntmps57
  go_wp2
  go_loopg [5] (2 ^ t.length * 2 ^ t.length + 2 ^ t.length) (fun g xv wr => ∃ x : Nat, xv = .int .i64 x ∧ x < N ∧ Hid (Ends t.length (entN t) a g x) ∧ Hid (omegaGo t.length (entN t) a g x = O) ∧ w = wr)
  case atStart => exact ⟨a, rfl, haN, Lib.hid (ends_start HTB.out HA.out), Lib.hid HO.out.symm, rfl⟩
  case round =>
    obtain ⟨x, rfl, hx, hends, hgo, rfl⟩ := hrel
    have hx2 : x < 2 ^ t.length := by rw [← HN.out]; exact hx
    have HP1 := Lib.hid (prod40_any B w v t x x H.out HS.out hn hx2 hx2)
    have HP2 := Lib.hid (prod40_any B w v t x a H.out HS.out hn hx2 HA.out)
    obtain ⟨Y, hY⟩ : ∃ Y, Y = prodSet t.length (entN t) x a := ⟨_, rfl⟩
    obtain ⟨X, hX⟩ : ∃ X, X = prodSet t.length (entN t) x x := ⟨_, rfl⟩
    have hYN : Y < N := by rw [hY, HN.out]; exact prodSet_lt HTB.out.lt _ _
    rw [← hX] at HP1
    rw [← hY] at HP2
    have HX := Lib.hid hX; have HY := Lib.hid hY
    clear hX hY hx2
    by_cases hid : X = x
    · have ht : ((X : Int) != (x : Int)) = false := by rw [hid]; simp
      have HI := Lib.hid hid
      have e4 : bits .or .i64 (x : Int) (Y : Int) = ((x ||| Y : Nat) : Int) := i64_or_nat x Y (by omega) (by omega)
      have hstop : x ||| Y = O := by
        have h1 := hgo.out
        rw [omegaGo_stop (by rw [← HX.out]; exact hid)] at h1
        rw [HY.out]; exact h1
      rw [hstop] at e4
      clear hid hstop
      go_wp2_with fail
      refine HP1.out.mono ?_
      rintro e w' ⟨rfl, rfl⟩
      go_wp2_with fail
      refine HP2.out.mono ?_
      rintro e w' ⟨rfl, rfl⟩
      go_wp2
      go_ret
      exact ⟨rfl, rfl⟩
    · have ht : ((X : Int) != (x : Int)) = true := by rw [bne_iff_ne]; omega
      have HI := Lib.hid hid
      clear hid
      go_wp2_with fail
      refine HP1.out.mono ?_
      rintro e w' ⟨rfl, rfl⟩
      go_wp2_with fail
      refine HP2.out.mono ?_
      rintro e w' ⟨rfl, rfl⟩
      obtain ⟨j, hj, he⟩ := ends_step hends.out (by rw [← HX.out]; exact HI.out)
      have hgo2 := hgo.out
      rw [hj, omegaGo_step (by rw [← HX.out]; exact HI.out), ← HY.out] at hgo2
      rw [← HY.out] at he
      have HJ := Lib.hid hj; have HE := Lib.hid he; have HG := Lib.hid hgo2
      clear hj he hgo2
      go_wp2
      go_roundg j
      case measure => have := HJ.out; omega
      case rel => exact ⟨Y, rfl, hYN, HE, HG, rfl⟩
def setB (n : Nat) (s : Int) : Bool := decide (0 ≤ s ∧ s < (2 ^ n : Nat))
theorem isSet_any (w : World) (a : Option Addr) (n cap : Nat) (s : Int) (hn : n ≤ 12) :
    Calls Tryd.prog 66 #[.slice a n cap, .int .i64 s] w fun e w' => e = .returned (.bool (setB n s)) ∧ w = w' := by
  have hsh := shl_eq (m := n) (by omega)
  unfold setB
  obtain ⟨N, hN⟩ : ∃ N, N = 2 ^ n := ⟨_, rfl⟩
  rw [← hN] at hsh ⊢
  have HN := Lib.hid hN
  clear hN
  by_cases h0 : 0 ≤ s
  · go_enter Tryd.func66, Tryd.ntmps66
    go_wp2
    go_ret
    exact ⟨ret_bool (by simp [h0]), rfl⟩
  · go_enter Tryd.func66, Tryd.ntmps66
    go_wp2
    go_ret
    exact ⟨ret_bool (by simp; omega), rfl⟩
end Go.Proofs.YtdjhoadoiknaoaaDoor
