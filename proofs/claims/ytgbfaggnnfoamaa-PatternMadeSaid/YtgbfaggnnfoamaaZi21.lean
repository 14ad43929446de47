/- Part 21 of the proof: PVal. -/
import Derived.Test.YtgbfaggnnfoamaaZi20
set_option linter.unusedVariables false
set_option linter.unusedSimpArgs false
namespace Go.Proofs.Ytgbfaggnnfoamaa
open Go.RowKit
def txtV (bs : List ByteArray) : List Value := bs.map .string
theorem zR (bs : List ByteArray) : (txtV bs).length = bs.length := by simp [txtV]
theorem xT {w : World} {b off : Nat} {bs : List ByteArray} (h : wE w b off (txtV bs)) (i : Nat) (hi : i < bs.length) : w.cell? ⟨b, off + i, none⟩ = some (.string (bs.getD i ⟨#[]⟩)) := by
 rw [h.map i hi, zI hi]
def totW (bs : List ByteArray) : Int := bs.foldl (fun a b => wrap64 (a + (b.size : Int))) 0
theorem nZ (bs : List ByteArray) (k : Nat) (hk : k < bs.length) : totW (bs.take (k + 1)) = wrap64 (totW (bs.take k) + ((bs.getD k ⟨#[]⟩).size : Int)) := by
 rw [List.take_succ_eq_append_getElem hk, totW, List.foldl_append, zI hk]; rfl
theorem totW_eq (bs : List ByteArray) (h : ∀ i (hi : i < bs.length), bs[i].size ≤ 4294967296) (hl : bs.length ≤ 4096) : ∀ k, k ≤ bs.length → totW (bs.take k) = (vF (bs.take k) : Int) ∧ vF (bs.take k) ≤ k * 4294967296
 | 0, _ => ⟨rfl, by simp [vF]⟩
 | k + 1, hk => by
  obtain ⟨h1, h2⟩ := totW_eq bs h hl k (by omega)
  have h3 := h k (by omega)
  rw [nZ bs k (by omega), h1, rR bs k (by omega), zI (show k < bs.length by omega)]
  refine ⟨?_, by omega⟩
  rw [← Int.natCast_add]
  exact IntWalk.wrap64_in _ (by omega)
def patW (bs : List ByteArray) (letters : Int) : Int :=
 if letters < 1 ∨ 6 < letters then 1 else if 8 < bs.length then 3 else if 64 < totW bs then 3
 else if bs.length = 0 then 22 else if xF bs.length letters 0 bs then 0 else 22
theorem ok_sizes {bs : List ByteArray} {letters : Int} : ∀ {n i : Nat}, xF n letters i bs = true → ∀ j (hj : j < bs.length), bs[j].size ≤ 2048 := by
 induction bs with
 | nil => intro n i _ j hj; simp at hj
 | cons u us ih =>
  intro n i h j hj
  rw [xF, Bool.and_eq_true] at h
  cases j with
  | zero =>
   have h1 := h.1
   simp only [wP, zU, Bool.and_eq_true, decide_eq_true_eq] at h1
   exact h1.1.1.2.2
  | succ j => simpa using ih h.2 j (by simpa using hj)
theorem patW_facts {bs : List ByteArray} {letters : Int} (h : patW bs letters = 0) : ¬ (letters < 1 ∨ 6 < letters) ∧ ¬ 8 < bs.length ∧ ¬ 64 < totW bs ∧ ¬ bs.length = 0 ∧ xF bs.length letters 0 bs = true := by
 unfold patW at h
 split at h
 ·omega
 split at h
 ·omega
 split at h
 ·omega
 split at h
 ·omega
 split at h
 ·exact ⟨by assumption, by assumption, by assumption, by assumption, by assumption⟩
 ·omega
theorem mK {bs : List ByteArray} {letters : Int} (h1 : ¬ (letters < 1 ∨ 6 < letters)) (h2 : ¬ 8 < bs.length) (h3 : ¬ 64 < totW bs) (h4 : ¬ bs.length = 0) : patW bs letters = if xF bs.length letters 0 bs then 0 else 22 := by
 unfold patW
 rw [if_neg h1, if_neg h2, if_neg h3, if_neg h4]
theorem tot_same {bs : List ByteArray} {letters : Int} (h2 : ¬ 8 < bs.length) (h3 : xF bs.length letters 0 bs = true) : totW bs = (vF bs : Int) := by
 have hs := ok_sizes h3
 have ht := (totW_eq bs (fun i hi => by have := hs i hi; omega) (by omega) bs.length (Nat.le_refl _)).1
 rwa [List.take_length] at ht
theorem vZ {bs : List ByteArray} {letters : Int} : patW bs letters = 0 ↔ zT bs letters = 0 := by
 constructor
 ·intro h
  obtain ⟨h1, h2, h3, h4, h5⟩ := patW_facts h
  rw [vW (by omega) (by omega) h2 (by have := tot_same h2 h5; omega) h4, if_pos h5]
 ·intro h
  obtain ⟨h1, h2, h3, h4, h5, h6⟩ := wJ h
  rw [mK (by omega) (by omega) (by have := tot_same (by omega) h6; omega) (by omega), if_pos h6]
set_option maxRecDepth 100000 in
set_option maxHeartbeats 400000 in
theorem pM (B : Nat) (w : World) (v : Value) (bs : List ByteArray) (letters : Int) (h : Row B w v (txtV bs)) (hs : ∀ i (hi : i < bs.length), bs[i].size ≤ maxLen) :
    Calls Try.prog 35 #[.agg #[v], .int .i64 letters] w fun e w' => e = .returned (.int .i64 (patW bs letters)) ∧ w.grownBy w' none := by
  have hlm := h.len_le
  rw [zR] at hlm
  have hlm' : bs.length ≤ 9223372036854775807 := by unfold maxLen at hlm; omega
  have H := Kh h; have HS := Kh hs
  obtain ⟨a, cap, rfl⟩ := h.shape
  rw [zR] at H ⊢
  clear h hs hlm
  by_cases h1 : letters < 1
  · go_enter Try.func35, Try.ntmps35
    go_wp2
    go_ret
    exact ⟨yL (by simp [patW, h1]), World.grownBy_alloc _ _ _⟩
  by_cases h2 : 6 < letters
  · go_enter Try.func35, Try.ntmps35
    go_wp2
    go_ret
    exact ⟨yL (by simp [patW, h2]), World.grownBy_alloc _ _ _⟩
  by_cases h3 : 8 < bs.length
  · have h3' : (8 : Int) < bs.length := by omega
    go_enter Try.func35, Try.ntmps35
    go_wp2
    go_ret
    exact ⟨yL (by simp [patW, h1, h2, h3]), World.grownBy_alloc _ _ _⟩
  have h3' : ¬ (8 : Int) < bs.length := by omega
  go_enter Try.func35, Try.ntmps35
  go_wp2
  go_loopg [5, 7, 24] bs.length (fun gh t a7 i wr => w.alloc (.cells #[.slice a bs.length cap] 36) = wr ∧ ∃ k : Nat, gh + k = bs.length ∧ i = .int .i64 k ∧ t = .int .i64 (totW (bs.take k)))
  case atStart => exact ⟨rfl, 0, rfl, rfl, rfl⟩
  case round =>
    obtain ⟨hw, k, hgh, rfl, rfl⟩ := hrel
    have HGH := Kh hgh
    clear hgh
    by_cases hlt : k < bs.length
    · have hlt' : (k : Int) < bs.length := by omega
      obtain ⟨kb, off, kc, e, _, hk1, hk2, hkr⟩ := (H.out.kept (World.grownBy_alloc w (.cells #[.slice a bs.length cap] 36) none) (by simp)).some_ (by rw [zR]; omega)
      rw [hw] at hkr
      rw [zR] at e hk1
      simp only [Value.slice.injEq] at e
      obtain ⟨rfl, _, rfl⟩ := e
      have hc := xT hkr k hlt
      have HS2 := Kh (nZ bs k hlt)
      obtain ⟨u, hu⟩ : ∃ u, u = bs.getD k ⟨#[]⟩ := ⟨_, rfl⟩
      have hus : u.size ≤ 9223372036854775807 := by
        rw [hu, zI hlt]; have := HS.out k hlt; unfold maxLen at this; omega
      rw [← hu] at hc HS2
      have HW := Kh hw
      clear hkr hu hw
      go_wp2
      go_roundg (bs.length - (k + 1))
      case measure => have := HGH.out; omega
      case rel => exact ⟨HW.out, k + 1, by have := HGH.out; omega, by go_num, by rw [HS2.out]⟩
    · have hkn : k = bs.length := by have := HGH.out; omega
      have HT : Hid (totW (bs.take k) = totW bs) := Kh (by rw [hkn, List.take_length])
      rw [HT.out]
      have hkn' : ¬ (k : Int) < bs.length := by omega
      have HG : Hid (w.grownBy wr none) := Kh (by rw [← hw]; exact World.grownBy_alloc _ _ _)
      have hb := heap_alloc_new w (.cells #[.slice a bs.length cap] 36)
      rw [hw] at hb
      have c0 : wr.cell? ⟨w.heap.size, 0, none⟩ = some (.slice a bs.length cap) := by simpa using zK hb 0 (by simp)
      have HR : Hid (Row B wr (.slice a bs.length cap) (txtV bs)) := Kh (H.out.kept HG.out (by simp))
      clear hkn hw hb HGH
      obtain ⟨tw, htw⟩ : ∃ tw, tw = totW bs := ⟨_, rfl⟩
      rw [← htw]
      have HTW := Kh htw
      clear htw
      by_cases h4 : 64 < tw
      · go_wp2
        go_ret
        exact ⟨yL (by rw [patW, if_neg (by omega), if_neg (by omega), if_pos (by rw [← HTW.out]; omega)]), HG.out⟩
      by_cases h5 : bs.length = 0
      · have h5' : ((bs.length : Int) == 0) = true := by simp [h5]
        have H5 := Kh h5; clear h5
        go_wp2
        go_ret
        exact ⟨yL (by rw [patW, if_neg (by omega), if_neg (by omega), if_neg (by rw [← HTW.out]; omega), if_pos H5.out]), HG.out⟩
      have h5' : ((bs.length : Int) == 0) = false := by rw [beq_eq_false_iff_ne]; omega
      go_wp2
      go_loopg [8, 9, 42] bs.length (fun gh a8 a9 i wq => wr = wq ∧ ∃ k : Nat, gh + k = bs.length ∧ i = .int .i64 k ∧ xF bs.length letters k (bs.drop k) = xF bs.length letters 0 bs)
      case atStart => exact ⟨rfl, 0, rfl, rfl, rfl⟩
      case round =>
        obtain ⟨rfl, j, hgh, rfl, hok⟩ := hrel
        have HGH := Kh hgh; have HOK := Kh hok
        clear hgh hok
        by_cases hj : j < bs.length
        · have hj' : (j : Int) < bs.length := by omega
          obtain ⟨kb, off, kc, e, _, hk1, hk2, hkr⟩ := HR.out.some_ (by rw [zR]; omega)
          rw [zR] at e hk1
          simp only [Value.slice.injEq] at e
          obtain ⟨rfl, _, rfl⟩ := e
          have hc := xT hkr j hj
          obtain ⟨u, hu⟩ : ∃ u, u = bs.getD j ⟨#[]⟩ := ⟨_, rfl⟩
          have hus : u.size ≤ maxLen := by rw [hu, zI hj]; exact HS.out j hj
          rw [← hu] at hc
          have HU : Hid (u = bs[j]) := Kh (by rw [hu, zI hj])
          clear hkr hu
          go_wp2_with (go_at_call 36; refine (uL u letters _ hus).mono ?_; rintro e w' ⟨rfl, rfl⟩)
          all_goals first
            | (go_ret
               exact ⟨yL (by rw [mK (by omega) (by omega) (by rw [← HTW.out]; omega) (by omega), oM hj (by rw [← HU.out]; first | exact qY (by assumption) (by assumption) (by assumption) | exact qZ (by assumption)) HOK.out]; rfl), HG.out⟩)
            | (go_roundg (bs.length - (j + 1))
               case rel => exact ⟨rfl, j + 1, by have := HGH.out; omega, by go_num, qW hj (qX (by rw [← HU.out]; assumption) (by rw [← HU.out]; first | (left; omega) | (right; assumption))) HOK.out⟩
               case measure => have := HGH.out; omega)
        · have hj' : ¬ (j : Int) < bs.length := by omega
          have e : xF bs.length letters j (bs.drop j) = true := by rw [List.drop_eq_nil_of_le (by omega)]; rfl
          have HE := Kh e
          clear e
          go_wp2
          go_ret
          exact ⟨yL (by rw [mK (by omega) (by omega) (by rw [← HTW.out]; omega) (by omega), ← HOK.out, HE.out]; rfl), HG.out⟩
end Go.Proofs.Ytgbfaggnnfoamaa
