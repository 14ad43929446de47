/- Part 35 of the proof: Value. -/
import Derived.Test.YtdjhoadoiknaoaaDoorZw34
set_option linter.unusedVariables false
set_option linter.unusedSimpArgs false
namespace Go.Proofs.YtdjhoadoiknaoaaDoor
open Go.RowKit
theorem before_any (w : World) (a i : Int) :
    Calls Tryd.prog 74 #[.int .i64 a, .int .i64 i] w fun e w' => e = .returned (.bool (decide (0 ≤ a ∧ a < i))) ∧ w = w' := by
  by_cases h : 0 ≤ a
  · go_enter Tryd.func74, Tryd.ntmps74
    go_wp2
    go_ret
    exact ⟨ret_bool (by simp [h]), rfl⟩
  · go_enter Tryd.func74, Tryd.ntmps74
    go_wp2
    go_ret
    exact ⟨ret_bool (by simp; omega), rfl⟩
theorem byteV_at (s : ByteArray) (k : Nat) (hk : k < s.size) : s.data.toList.take (k + 1) = s.data.toList.take k ++ [s[k]] := by
  rw [List.take_succ_eq_append_getElem (by simpa using hk)]
  rfl
theorem byte_ok {s : ByteArray} {letters : Int} (h : wordValid s letters = true) (k : Nat) (hk : k < s.size) : 97 ≤ (s[k].toNat : Int) ∧ (s[k].toNat : Int) - 97 < letters := by
  simp only [wordValid, Bool.and_eq_true, List.all_eq_true] at h
  have hm : s[k] ∈ s.data.toList := by
    have : s[k] = s.data[k]'(by simpa using hk) := rfl
    rw [this]; simp
  simpa [okByte] using h.2 _ hm
set_option maxRecDepth 100000 in
set_option maxHeartbeats 800000 in
theorem value_any (B : Nat) (w : World) (v iv : Value) (t : List (List Int)) (im : List Int) (x0 : Nat) (s : ByteArray) (h : Mat B w v t) (hi : Row B w iv (ints im)) (hg : Good t im) (hx : x0 < t.length) (hs : wordValid s im.length = true) :
    Calls Tryd.prog 73 #[v, iv, .int .i64 (x0 : Int), .string s] w fun e w' => e = .returned (.int .i64 ((walkV t im x0 s.data.toList : Nat) : Int)) ∧ ∃ m, w' = w.drewN m := by
  have hsh := (valid_of hg.valid).1
  have hz : s.size ≤ 2048 := by simp only [wordValid, Bool.and_eq_true, decide_eq_true_eq] at hs; omega
  obtain ⟨b, off, cap, RB, RO, RC, rfl, hc1, hc2, hq⟩ := h.sq hsh
  obtain ⟨ib, io, ic, rfl, _, hi1, hi2, hra⟩ := hi.some_ (by rw [ints_length]; exact hg.im0)
  rw [ints_length] at hi1 ⊢
  have h6 := hg.im6
  have hmx : cap ≤ 9223372036854775807 := by unfold maxLen at hc2; omega
  have hmi : ic ≤ 9223372036854775807 := by unfold maxLen at hi2; omega
  have HQ := Lib.hid hq; have HRA := Lib.hid hra; have HG := Lib.hid hg; have HS := Lib.hid hs; have HSH := Lib.hid hsh
  have hn12 := hg.le
  clear h hi hq hra hg hs hsh hi2 hc2
  go_enter Tryd.func73, Tryd.ntmps73
  go_wp2
  go_loopg [9, 14] s.size (fun gh v9 i wr => ∃ (k m x : Nat), gh + k = s.size ∧ i = .int .i64 (k : Int) ∧ v9 = .int .i64 (x : Int) ∧ x < t.length ∧ Hid (x = walkV t im x0 (s.data.toList.take k)) ∧ wr = w.drewN m)
  case atStart => exact ⟨0, 0, x0, rfl, rfl, rfl, hx, Lib.hid rfl, rfl⟩
  case round =>
    obtain ⟨k, m, x, hgh, rfl, rfl, hxl, hxe, rfl⟩ := hrel
    have HGH := Lib.hid hgh; clear hgh
    by_cases hk : k < s.size
    · have hk' : (k : Int) < s.size := by omega
      have hb := byte_ok HS.out k hk
      obtain ⟨c, hc⟩ : ∃ c, c = s[k].toNat := ⟨_, rfl⟩
      have h1 := inB_iff.1 HG.out.inb (c - 97) (by omega)
      obtain ⟨y, hy⟩ : ∃ y : Nat, (y : Int) = im.getD (c - 97) 0 := ⟨(im.getD (c - 97) 0).toNat, by omega⟩
      have ci := HRA.out.int (c - 97) (by omega)
      rw [← hy] at ci h1
      have hyl : y < t.length := by omega
      have c0 := HQ.out.hd x hxl
      have c1 := HQ.out.el x y hxl hyl
      have hrc := HQ.out.cap x hxl
      have hrcm : RC x ≤ 9223372036854775807 := by have := hrc.2; unfold maxLen at this; omega
      obtain ⟨z, hz0⟩ : ∃ z, z = entN t x y := ⟨_, rfl⟩
      have hzl : z < t.length := by rw [hz0]; exact entN_lt HSH.out hxl hyl
      rw [← hz0] at c1
      have HZ : Hid (z = walkV t im x0 (s.data.toList.take (k + 1))) := Lib.hid (by
        rw [byteV_at s k hk, walkV_snoc, ← hxe.out, ← hc, ← hy]; exact hz0)
      rw [← hc] at hb
      have hcw : IntKind.u8.wrap ((s[k].toNat : Int) - 97) = ((c - 97 : Nat) : Int) := by
        rw [← hc]; unfold IntKind.wrap; simp [IntKind.signed, IntKind.bits]; omega
      obtain ⟨y0, hy0⟩ : ∃ y0, y0 = c - 97 := ⟨_, rfl⟩
      have hy6 : y0 < im.length := by omega
      have hy6' : (y0 : Int) < im.length := by omega
      rw [← hy0] at hcw ci
      have hxl' : (x : Int) < t.length := by omega
      have hyl' : (y : Int) < t.length := by omega
      clear hz0 hy hb h1 hy0 hc
      go_wp2
      go_quiet (fail)
      go_wp2
      go_roundg (s.size - (k + 1))
      case measure => have := HGH.out; omega
      case rel => exact ⟨k + 1, _, z, by omega, by go_num, rfl, hzl, HZ, rfl⟩
    · have hkn : s.data.toList.take k = s.data.toList := List.take_of_length_le (by simp; omega)
      rw [hkn] at hxe
      go_wp2
      go_ret
      exact ⟨ret_int (by rw [← hxe.out]), m, rfl⟩
end Go.Proofs.YtdjhoadoiknaoaaDoor
