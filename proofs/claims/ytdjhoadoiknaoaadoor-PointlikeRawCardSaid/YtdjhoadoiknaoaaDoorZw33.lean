/- Part 33 of the proof: Word, Mono, Closed, Steps, Find. -/
import Derived.Test.YtdjhoadoiknaoaaDoorZw32
set_option linter.unusedVariables false
set_option linter.unusedSimpArgs false
namespace Go.Proofs.YtdjhoadoiknaoaaDoor
open Go.RowKit
def okByte (letters : Int) (c : UInt8) : Bool := decide (97 ≤ (c.toNat : Int) ∧ (c.toNat : Int) - 97 < letters)
def wordValid (s : ByteArray) (letters : Int) : Bool := decide (1 ≤ letters ∧ letters ≤ 6 ∧ s.size ≤ 2048) && s.data.toList.all (okByte letters)
theorem wordValid_no (s : ByteArray) (letters : Int) (k : Nat) (hk : k < s.size) (h : (s[k].toNat : Int) < 97 ∨ letters ≤ ((s[k].toNat : Int) - 97) % 256) : wordValid s letters = false := by
  have hm : s[k] ∈ s.data.toList := by
    have : s[k] = s.data[k]'(by simpa using hk) := rfl
    rw [this]; simp
  have h2 : okByte letters s[k] = false := by
    have := UInt8.toNat_lt s[k]
    simp [okByte]; omega
  unfold wordValid
  rw [Bool.and_eq_false_iff]; right
  rw [List.all_eq_false]; exact ⟨_, hm, by simp [h2]⟩
theorem all_succ (s : ByteArray) (letters : Int) (k : Nat) (hk : k < s.size) (h : (s.data.toList.take k).all (okByte letters) = true)
    (h1 : 97 ≤ (s[k].toNat : Int) ∧ ((s[k].toNat : Int) - 97) % 256 < letters) : (s.data.toList.take (k + 1)).all (okByte letters) = true := by
  rw [List.take_succ_eq_append_getElem (by simpa using hk), List.all_append, h]
  have : s.data.toList[k]'(by simpa using hk) = s[k] := rfl
  have h3 := UInt8.toNat_lt s[k]
  simp [this, okByte]; omega
theorem wordValid_yes (s : ByteArray) (letters : Int) (k : Nat) (hk : s.size ≤ k) (h : 1 ≤ letters ∧ letters ≤ 6 ∧ s.size ≤ 2048) (ha : (s.data.toList.take k).all (okByte letters) = true) : wordValid s letters = true := by
  rw [List.take_of_length_le (by simpa using hk)] at ha
  simp [wordValid, ha, h]
set_option maxHeartbeats 400000 in
theorem wordValid_any (s : ByteArray) (letters : Int) (w : World) (hs : s.size ≤ maxLen) :
    Calls Tryd.prog 72 #[.string s, .int .i64 letters] w fun e w' => e = .returned (.bool (wordValid s letters)) ∧ w = w' := by
  unfold maxLen at hs
  by_cases h1 : letters < 1
  · go_enter Tryd.func72, Tryd.ntmps72
    go_wp2
    go_ret
    exact ⟨ret_bool (by simp [wordValid]; omega), rfl⟩
  by_cases h2 : 6 < letters
  · go_enter Tryd.func72, Tryd.ntmps72
    go_wp2
    go_ret
    exact ⟨ret_bool (by simp [wordValid]; omega), rfl⟩
  by_cases h3 : 2048 < s.size
  · go_enter Tryd.func72, Tryd.ntmps72
    go_wp2
    go_ret
    exact ⟨ret_bool (by simp [wordValid]; omega), rfl⟩
  go_enter Tryd.func72, Tryd.ntmps72
  go_wp2
  go_loop [19] (fun i => ∃ k : Nat, k ≤ s.size ∧ i = .int .i64 k ∧ (s.data.toList.take k).all (okByte letters) = true) (fun i => s.size - (intOf i).toNat)
  case atStart => exact ⟨0, Nat.zero_le _, rfl, rfl⟩
  case round =>
    obtain ⟨k, hk, rfl, hall⟩ := hrel
    have HA := Lib.hid hall; clear hall
    by_cases hlt : k < s.size
    · go_wp2
      · go_ret
        exact ⟨ret_bool (by rw [eq_comm]; exact wordValid_no s letters k hlt (by omega)), rfl⟩
      · go_round
        case rel => exact ⟨k + 1, by omega, by go_num, all_succ s letters k hlt HA.out (by omega)⟩
        case measure => simp [intOf]; omega
      · go_ret
        exact ⟨ret_bool (by rw [eq_comm]; exact wordValid_no s letters k hlt (by omega)), rfl⟩
    · go_wp2
      go_ret
      exact ⟨ret_bool (by rw [eq_comm]; exact wordValid_yes s letters k (by omega) (by omega) HA.out), rfl⟩
end Go.Proofs.YtdjhoadoiknaoaaDoor
namespace Go.Proofs.YtdjhoadoiknaoaaDoor
section
variable {n : Nat} {tb : Nat → Nat → Nat}
theorem prodSet_mono {a a' b b' : Nat} (ha : a &&& a' = a) (hb : b &&& b' = b) : prodSet n tb a b &&& prodSet n tb a' b' = prodSet n tb a b := by
  refine sub_iff.2 fun z hz => ?_
  obtain ⟨x, y, hx, hy, h1, h2, e⟩ := (prodSet_bit n tb a b z).1 hz
  exact (prodSet_bit n tb a' b' z).2 ⟨x, y, hx, hy, sub_iff.1 ha x h1, sub_iff.1 hb y h2, e⟩
theorem powSet_mono {a a' : Nat} (ha : a &&& a' = a) (k : Nat) : powSet n tb a k &&& powSet n tb a' k = powSet n tb a k := by
  induction k with
  | zero => exact ha
  | succ k ih => exact prodSet_mono ih ha
theorem powSet_mul (h : Tb n tb) {a m : Nat} (hi : prodSet n tb (powSet n tb a m) (powSet n tb a m) = powSet n tb a m) (j : Nat) : powSet n tb a ((m + 1) * j + m) = powSet n tb a m := by
  induction j with
  | zero => simp
  | succ j ih =>
    have := powSet_add h a ((m + 1) * j + m) m
    rw [ih, hi] at this
    rw [show (m + 1) * (j + 1) + m = (m + 1) * j + m + m + 1 from by rw [Nat.mul_succ]; omega]
    exact this.symm
theorem or_mono {a a' b b' : Nat} (ha : a &&& a' = a) (hb : b &&& b' = b) : (a ||| b) &&& (a' ||| b') = a ||| b := by
  refine sub_iff.2 fun z hz => ?_
  rw [Nat.testBit_or, Bool.or_eq_true] at hz ⊢
  rcases hz with hz | hz
  · exact .inl (sub_iff.1 ha z hz)
  · exact .inr (sub_iff.1 hb z hz)
theorem omegaGo_is {a : Nat} : ∀ (k x : Nat), Ends n tb a k x → ∃ m, prodSet n tb (powSet n tb a m) (powSet n tb a m) = powSet n tb a m ∧ omegaGo n tb a k x = powSet n tb a m ||| prodSet n tb (powSet n tb a m) a := by
  intro k
  induction k with
  | zero =>
    rintro x ⟨i, m, rfl, hm, e⟩
    obtain rfl : m = 0 := by omega
    exact ⟨i, e, rfl⟩
  | succ k ih =>
    intro x hx
    by_cases hi : prodSet n tb x x = x
    · obtain ⟨i, m, rfl, _, _⟩ := hx
      exact ⟨i, hi, omegaGo_stop hi⟩
    · obtain ⟨j, e, hj⟩ := ends_step hx hi
      obtain rfl : k = j := by omega
      rw [omegaGo_step hi]
      exact ih _ hj
theorem omegaSet_is (h : Tb n tb) {a : Nat} (ha : a < 2 ^ n) : ∃ m, prodSet n tb (powSet n tb a m) (powSet n tb a m) = powSet n tb a m ∧ omegaSet n tb a = powSet n tb a m ||| prodSet n tb (powSet n tb a m) a :=
  omegaGo_is _ _ (ends_start h ha)
theorem omegaSet_mono (h : Tb n tb) {a b : Nat} (ha : a < 2 ^ n) (hb : b < 2 ^ n) (hab : a &&& b = a) : omegaSet n tb a &&& omegaSet n tb b = omegaSet n tb a := by
  obtain ⟨i, hi, ei⟩ := omegaSet_is h ha
  obtain ⟨j, hj, ej⟩ := omegaSet_is h hb
  have h1 := powSet_mul h hi j
  have h2 := powSet_mul h hj i
  have e : (i + 1) * j + i = (j + 1) * i + j := by rw [Nat.succ_mul, Nat.succ_mul, Nat.mul_comm i j]; omega
  have hp : powSet n tb a i &&& powSet n tb b j = powSet n tb a i := by
    rw [← h1, ← h2, ← e]
    exact powSet_mono hab _
  rw [ei, ej]
  exact or_mono hp (prodSet_mono hp hab)
theorem closed_prod (ht : Tb n tb) {l : List Nat} (hl : ∀ b ∈ l, b < 2 ^ n) (hc : roundSets n tb l = l) {a b : Nat} (ha : under l a = true) (hb : under l b = true) : under l (prodSet n tb a b) = true := by
  obtain ⟨x, hx, hax⟩ := under_iff.1 ha
  obtain ⟨y, hy, hby⟩ := under_iff.1 hb
  have h1 : under (roundList n tb l) (prodSet n tb a b) = true := under_iff.2 ⟨prodSet n tb x y, mem_roundList.2 (.inr ⟨x, hx, .inl ⟨y, hy, rfl⟩⟩), prodSet_mono hax hby⟩
  rw [← under_maxOf (roundList_lt ht hl)] at h1
  rw [← hc]; exact h1
theorem closed_omega (ht : Tb n tb) {l : List Nat} (hl : ∀ b ∈ l, b < 2 ^ n) (hc : roundSets n tb l = l) {a : Nat} (ha : under l a = true) : under l (omegaSet n tb a) = true := by
  obtain ⟨x, hx, hax⟩ := under_iff.1 ha
  have hxl := hl x hx
  have h1 : under (roundList n tb l) (omegaSet n tb a) = true := under_iff.2 ⟨omegaSet n tb x, mem_roundList.2 (.inr ⟨x, hx, .inr rfl⟩), omegaSet_mono ht (sub_lt hax hxl) hxl hax⟩
  rw [← under_maxOf (roundList_lt ht hl)] at h1
  rw [← hc]; exact h1
end
end Go.Proofs.YtdjhoadoiknaoaaDoor
namespace Go.Proofs.YtdjhoadoiknaoaaDoor
section
variable {n : Nat} {tb : Nat → Nat → Nat}
theorem roundsGo_inv (ht : Tb n tb) : ∀ (k : Nat) (l : List Nat) (d : Bool), FamOk n (l, d) → (d = true → roundSets n tb l = l) →
    ((roundsGo n tb k (l, d)).2 = true → roundSets n tb (roundsGo n tb k (l, d)).1 = (roundsGo n tb k (l, d)).1) ∧ (∀ s, under l s = true → under (roundsGo n tb k (l, d)).1 s = true) ∧ FamOk n (roundsGo n tb k (l, d))
  | 0, l, d, hf, hd => ⟨hd, fun _ h => h, hf⟩
  | k + 1, l, true, hf, hd => by
    rw [roundsGo_done]
    exact ⟨hd, fun _ h => h, hf⟩
  | k + 1, l, false, hf, _ => by
    rw [roundsGo_step]
    have ih := roundsGo_inv ht k (roundSets n tb l) (decide (roundSets n tb l = l)) (famOk_round ht hf) (fun h => by
      have e := of_decide_eq_true h
      rw [e, e])
    exact ⟨ih.1, fun s hs => ih.2.1 s (under_round ht hf.1 hs), ih.2.2⟩
theorem closeFrom_inv (ht : Tb n tb) {l : List Nat} (hf : FamOk n (l, false)) :
    roundSets n tb (closeFrom n tb l) = closeFrom n tb l ∧ (∀ s, under l s = true → under (closeFrom n tb l) s = true) ∧ (∀ b ∈ closeFrom n tb l, b < 2 ^ n) ∧ maxOf n (closeFrom n tb l) = closeFrom n tb l := by
  have h := roundsGo_inv ht (2 ^ n + 1) l false hf (by simp)
  have h2 := roundsGo_end ht (2 ^ n + 1) l hf (by have := gap_le n l; omega)
  exact ⟨h.1 h2, h.2.1, h.2.2.1, h.2.2.2⟩
end
end Go.Proofs.YtdjhoadoiknaoaaDoor
namespace Go.Proofs.YtdjhoadoiknaoaaDoor
open Go.RowKit
structure StepV where
  op : Int
  a : Int
  b : Int
  word : ByteArray
  set : Int
instance : Inhabited StepV := ⟨⟨0, 0, 0, ByteArray.empty, 0⟩⟩
structure StepsAt (w : World) (g : Nat) (ss : List StepV) : Prop where
  lt : g < w.heap.size
  op : ∀ i, i < ss.length → w.cell? ⟨g, i * 5, none⟩ = some (.int .i64 (ss.getD i default).op)
  a : ∀ i, i < ss.length → w.cell? ⟨g, i * 5 + 1, none⟩ = some (.int .i64 (ss.getD i default).a)
  b : ∀ i, i < ss.length → w.cell? ⟨g, i * 5 + 2, none⟩ = some (.int .i64 (ss.getD i default).b)
  word : ∀ i, i < ss.length → w.cell? ⟨g, i * 5 + 3, none⟩ = some (.string (ss.getD i default).word)
  set : ∀ i, i < ss.length → w.cell? ⟨g, i * 5 + 4, none⟩ = some (.int .i64 (ss.getD i default).set)
theorem StepsAt.kept {w w' : World} {g : Nat} {ss : List StepV} {row : Option Nat} (h : StepsAt w g ss) (hg : w.grownBy w' row) (hr : row ≠ some g) : StepsAt w' g ss := by
  have hb := hg.block g h.lt (fun e => hr e.symm)
  exact ⟨Nat.lt_of_lt_of_le h.lt hg.size, fun i hi => (World.cell?_of_block hb).trans (h.op i hi), fun i hi => (World.cell?_of_block hb).trans (h.a i hi), fun i hi => (World.cell?_of_block hb).trans (h.b i hi), fun i hi => (World.cell?_of_block hb).trans (h.word i hi), fun i hi => (World.cell?_of_block hb).trans (h.set i hi)⟩
def hits (s : Int) (x : StepV) : Bool := bits .and .i64 x.set s == s
def findStep (ss : List StepV) (s : Int) : Int := match ss.findIdx? (hits s) with
  | some i => i
  | none => -1
def noHit (ss : List StepV) (s : Int) (k : Nat) : Prop := ∀ i, i < k → hits s (ss.getD i default) = false
theorem find_hit {ss : List StepV} {s : Int} {k : Nat} (hk : k < ss.length) (h : noHit ss s k) (hh : hits s (ss.getD k default) = true) : findStep ss s = k := by
  have : ss.findIdx? (hits s) = some k := by
    rw [List.findIdx?_eq_some_iff_getElem]
    refine ⟨hk, by simpa [List.getD, List.getElem?_eq_getElem hk] using hh, fun j hj => ?_⟩
    have := h j hj
    simp [List.getD, List.getElem?_eq_getElem (show j < ss.length by omega)] at this
    simp [this]
  rw [findStep, this]
theorem find_none {ss : List StepV} {s : Int} (h : noHit ss s ss.length) : findStep ss s = -1 := by
  have : ss.findIdx? (hits s) = none := by
    rw [List.findIdx?_eq_none_iff]
    intro x hx
    obtain ⟨i, hi, rfl⟩ := List.getElem_of_mem hx
    have := h i hi
    simpa [List.getD, List.getElem?_eq_getElem hi] using this
  rw [findStep, this]
end Go.Proofs.YtdjhoadoiknaoaaDoor
namespace Go.Proofs.YtdjhoadoiknaoaaDoor
open Go.RowKit
set_option maxHeartbeats 800000 in
theorem find_any (w : World) (dp g n cap e : Nat) (x0 x2 : Value) (ss : List StepV) (s : Int) (hd : w.heap[dp]? = some (.cells #[x0, .slice (some ⟨g, 0, none⟩) ss.length cap, x2] e (0, 0))) (hs : StepsAt w g ss) (hl : ss.length ≤ 100000) :
    Calls Tryd.prog 76 #[.pointer (some ⟨dp, 0, none⟩), .int .i64 s] w fun r w' => r = .returned (.int .i64 (findStep ss s)) ∧ w.grownBy w' none := by
  have HS := Lib.hid hs
  have cd := cell_block hd 1 (by simp)
  simp only [List.getElem_toArray, List.getElem_cons_zero, List.getElem_cons_succ] at cd
  clear hs hd
  go_enter Tryd.func76, Tryd.ntmps76
  go_wp2
  go_loopg [12] ss.length (fun gh i wr => ∃ k : Nat, gh + k = ss.length ∧ i = .int .i64 k ∧ Hid (noHit ss s k) ∧ w.grownBy wr none)
  case atStart => exact ⟨0, rfl, rfl, Lib.hid (fun i hi => absurd hi (by omega)), grownBy_refl _ _⟩
  case round =>
    clear cd
    obtain ⟨k, hg, rfl, hno, hgr⟩ := hrel
    have HG := Lib.hid hg; have HGR := Lib.hid hgr
    clear hg
    by_cases hk : k < ss.length
    · have hk' : (k : Int) < ss.length := by omega
      have hsr := HS.out.kept hgr (by simp)
      have c0 := hsr.op k hk
      have c1 := hsr.a k hk
      have c2 := hsr.b k hk
      have c3 := hsr.word k hk
      have c4 := hsr.set k hk
      obtain ⟨st, hst⟩ : ∃ st, st = ss.getD k default := ⟨_, rfl⟩
      rw [← hst] at c0 c1 c2 c3 c4
      have HST := Lib.hid hst
      clear hsr hst hgr
      cases hb : (bits .and .i64 st.set s == s) with
      | true =>
        have HF : Hid (findStep ss s = k) := Lib.hid (find_hit hk hno.out (by rw [← HST.out]; exact hb))
        go_wp2
        go_ret
        exact ⟨ret_int HF.out.symm, grown_alloc HGR.out _⟩
      | false =>
        have HN : Hid (noHit ss s (k + 1)) := Lib.hid (fun i hi => by
          rcases Nat.lt_succ_iff_lt_or_eq.1 hi with hi | rfl
          · exact hno.out i hi
          · rw [← HST.out]; exact hb)
        go_wp2
        go_roundg (ss.length - (k + 1))
        case measure => have := HG.out; omega
        case rel => exact ⟨k + 1, by omega, by go_num, HN, grown_alloc HGR.out _⟩
    · have HF : Hid (findStep ss s = -1) := Lib.hid (find_none (fun i hi => hno.out i (by have := HG.out; omega)))
      go_wp2
      go_ret
      exact ⟨ret_int HF.out.symm, HGR.out⟩
end Go.Proofs.YtdjhoadoiknaoaaDoor
